import Derived.Test.YtphnlpfkenannaaGreatMx32
set_option linter.unusedVariables false
set_option linter.unusedSimpArgs false
namespace Go.AM
open Go Go.Proofs
set_option maxRecDepth 100000
set_option maxHeartbeats 4000000

abbrev aN10 (i : Nat) : Nd := ⟨10, [0, ((i + 1 : Nat) : Int)], []⟩
def addsL (k : Nat) : List Nd := (List.range k).map aN10
def lineL (k : Nat) (n : Int) : List Nd := [⟨2, [], [0]⟩, cN n] ++ addsL k
theorem adds_succ (k : Nat) : addsL (k + 1) = addsL k ++ [aN10 k] := by simp [addsL, List.range_succ]
theorem adds_len (k : Nat) : (addsL k).length = k := by simp [addsL]
theorem line_len (k : Nat) (n : Int) : (lineL k n).length = k + 2 := by simp [lineL, adds_len]
theorem line_succ (k : Nat) (n : Int) : lineL (k + 1) n = lineL k n ++ [aN10 k] := by unfold lineL; rw [adds_succ, List.append_assoc]
theorem line_get {k j : Nat} (n : Int) (h : j < k) : (lineL k n)[j + 2]? = some (aN10 j) := by
  unfold lineL addsL
  rw [List.getElem?_append_right (by simp)]
  simp [h]
theorem two1 (W : Int → Int → Int × Int) (a b : Int) (h : (W a b).2 = 0) : twoF W [] [a] [] [b] = (([], [(W a b).1]), 0) := by
  have e : twoF W [] [a] [] [b] = eachF [] (fun p => W (gt [a] p) (gt [b] p)) := rfl
  rw [e, eachF_ok (fun p hp => by
    have h1 : (sizeS []).toNat = 1 := rfl
    have : p = 0 := by omega
    subst this; exact h)]
  rfl
theorem walk_line (k : Nat) (n : Int) : walkG 0 [] (lineL k n) = some [(0, [0])] := by
  induction k with
  | zero => rfl
  | succ k ih =>
    rw [line_succ, walkG_append, ih]
    simp only [Option.bind, walkG, Nat.zero_add, line_len]
    have : stepG (k + 2) [(0, [0])] (aN10 k) = some [(0, [0])] := by
      unfold stepG
      show (match kindF 10 with | none => none | some k' => _) = _
      rw [show kindF 10 = some (2, 0) from rfl]
      simp only
      rw [if_pos ⟨rfl, rfl, by simp only [List.all_cons, List.all_nil, Bool.and_true]; rw [decide_eq_true (by omega), decide_eq_true (by omega)]; rfl⟩]
      rfl
    rw [this]
theorem check_line {k : Nat} (n : Int) (h : k ≤ 20) : checkG (lineL k n) = true := by
  unfold checkG
  rw [walk_line, line_len, decide_eq_true (by omega)]; rfl
theorem infer_add : inferF 10 [] [[], []] = ([], 0) := by decide +kernel
theorem shapes_line (k : Nat) (n : Int) : shapesL (lineL k n) [] = (List.replicate (k + 2) [], -1, 0) := by
  induction k with
  | zero =>
    show shapesL [⟨2, [], [0]⟩, cN n] [] = _
    have h1 : inferF 2 [0] [] = ([], 0) := by decide +kernel
    simp only [shapesL, List.map_nil, h1, infer_const]; rfl
  | succ k ih =>
    rw [line_succ, shapesL_append, ih]
    simp only [if_true, shapesL]
    have e : (aN10 k).args.map (gs (List.replicate (k + 2) [])) = [[], []] := by
      simp only [aN10, List.map_cons, List.map_nil, gs, Int.toNat_natCast]
      rw [List.getElem?_replicate, List.getElem?_replicate, if_pos (by show (0 : Int).toNat < _; simp), if_pos (by omega)]; rfl
    rw [e, infer_add]
    simp only [if_true]
    rw [show ([[]] : List (List Int)) = List.replicate 1 [] from rfl, List.replicate_append_replicate]
def lineV (w n : Int) : Nat → List Tn
  | 0 => [([], [w]), ([], [n])]
  | k + 1 => lineV w n k ++ [([], [((k + 1 : Nat) : Int) * w + n])]
theorem lineV_len (w n : Int) : ∀ k, (lineV w n k).length = k + 2
  | 0 => rfl
  | k + 1 => by simp [lineV, lineV_len w n k]
theorem lineV_0 (w n : Int) : ∀ k, gT (lineV w n k) 0 = ([], [w])
  | 0 => rfl
  | k + 1 => by
    unfold gT; simp only [lineV]
    rw [List.getElem?_append_left (by rw [lineV_len]; omega)]; exact lineV_0 w n k
theorem lineV_get (w n : Int) : ∀ (k j : Nat), j ≤ k → gT (lineV w n k) (j + 1) = ([], [(j : Int) * w + n])
  | 0, j, h => by
    obtain rfl : j = 0 := by omega
    show (([], [n]) : Tn) = _
    simp
  | k + 1, j, h => by
    unfold gT; simp only [lineV]
    by_cases hj : j ≤ k
    · rw [List.getElem?_append_left (by rw [lineV_len]; omega)]; exact lineV_get w n k j hj
    · obtain rfl : j = k + 1 := by omega
      rw [List.getElem?_append_right (by rw [lineV_len]; omega), lineV_len, Nat.sub_self]; rfl
theorem small_line {w n : Int} {k : Nat} (hw : -1125899906842624 ≤ w ∧ w ≤ 1125899906842624) (hn : -1125899906842624 ≤ n ∧ n ≤ 1125899906842624) (hk : k ≤ 20) : -24000000000000000 ≤ (k : Int) * w + n ∧ (k : Int) * w + n ≤ 24000000000000000 := by
  have h1 : (k : Int) * w ≤ (k : Int) * 1125899906842624 := Int.mul_le_mul_of_nonneg_left hw.2 (by omega)
  have h2 : (k : Int) * (-1125899906842624) ≤ (k : Int) * w := Int.mul_le_mul_of_nonneg_left hw.1 (by omega)
  omega
theorem nums_line {w n : Int} (hw : -1125899906842624 ≤ w ∧ w ≤ 1125899906842624) (hn : -1125899906842624 ≤ n ∧ n ≤ 1125899906842624) : ∀ k, k ≤ 20 → evLst ([], []) [([], [w])] (lineL k n) [] = (lineV w n k, -1, 0)
  | 0, _ => by
    show evLst ([], []) [([], [w])] [⟨2, [], [0]⟩, cN n] [] = _
    have h1 : nodeF ⟨2, [], [0]⟩ [] ([], []) [([], [w])] = (([], [w]), 0) := by
      have hi : inferF 2 [0] [] = ([], 0) := by decide +kernel
      unfold nodeF
      rw [if_pos (by show ([] : List Tn).all (fun x => checkT x.1 x.2) = true; rfl), if_pos (by show (inferF 2 [0] []).2 = 0; rw [hi]), if_neg (by show ¬ (2 : Int) = 1; decide), if_pos (by show (2 : Int) = 2; rfl)]
      show givenF ([], [w]) (inferF 2 [0] []).1 = _
      rw [hi]
      rfl
    simp only [evLst, List.map_nil, h1, node_const]; rfl
  | k + 1, hk => by
    rw [line_succ, evLst_append, nums_line hw hn k (by omega)]
    simp only [if_true, evLst]
    have hs := small_line (k := k) hw hn (by omega)
    have e : (aN10 k).args.map (fun a => gT (lineV w n k) a.toNat) = [([], [w]), ([], [(k : Int) * w + n])] := by
      simp only [aN10, List.map_cons, List.map_nil, Int.toNat_natCast]
      rw [show (0 : Int).toNat = 0 from rfl, lineV_0, lineV_get w n k k (Nat.le_refl _)]
    have hf : fAdd w ((k : Int) * w + n) = (((k + 1 : Nat) : Int) * w + n, 0) := by
      have e1 : w + ((k : Int) * w + n) = ((k + 1 : Nat) : Int) * w + n := by
        have : ((k + 1 : Nat) : Int) * w = (k : Int) * w + w := by rw [Int.natCast_add, Int.add_mul]; simp
        omega
      unfold fAdd
      rw [e1]
      have := small_line (k := k + 1) hw hn hk
      exact rng_in (by unfold I64; omega)
    have hN : nodeF (aN10 k) [([], [w]), ([], [(k : Int) * w + n])] ([], []) [([], [w])] = (([], [((k + 1 : Nat) : Int) * w + n]), 0) := by
      unfold nodeF
      rw [if_pos (by rfl), if_pos (by show (inferF 10 [] [[], []]).2 = 0; rw [infer_add]), if_neg (by show ¬ (10 : Int) = 1; decide), if_neg (by show ¬ (10 : Int) = 2; decide), if_neg (by show ¬ (10 : Int) = 3; decide)]
      show twoF fAdd [] [w] [] [(k : Int) * w + n] = _
      rw [two1 fAdd _ _ (by rw [hf]), hf]
    rw [e, hN]
    simp only [if_true, lineV]
theorem evAll_line {w n : Int} (hw : -1125899906842624 ≤ w ∧ w ≤ 1125899906842624) (hn : -1125899906842624 ≤ n ∧ n ≤ 1125899906842624) {k : Nat} (hk : k ≤ 20) : evAll (lineL k n) ([], []) [([], [w])] = (lineV w n k, -1, 0) := by
  have hS : shapesF (lineL k n) = (List.replicate (k + 2) [], -1, 0) := by unfold shapesF; rw [if_pos (check_line n hk), shapes_line]
  unfold evAll
  rw [hS]
  exact nums_line hw hn k hk
def descL : Nat → List Int
  | 0 => []
  | r + 1 => (r : Int) :: descL r
theorem live_line {k : Nat} (n : Int) : ∀ (j : Nat) (m : Bs) (out : List Int), j ≤ k → lkI ((j + 1 : Nat) : Int) m = some true → (j < k → lkI 0 m = some true) → (k = 0 → False) →
    liveK (lineL k n) (j + 2) m out = (out ++ descL (j + 2)).reverse
  | 0, m, out, h, h1, h0, hk => by
    have h0' := h0 (Nat.pos_of_ne_zero hk)
    have g1 : (lineL k n)[1]? = some (cN n) := rfl
    have g0 : (lineL k n)[0]? = some ⟨2, [], [0]⟩ := rfl
    have h1' : lkI (1 : Int) m = some true := h1
    simp only [liveK]
    rw [show (((0 + 1 : Nat) : Int)) = 1 from rfl, h1', g1]
    simp only [Option.getD_some, if_true]
    show (if (lkI ((0 : Nat) : Int) m).getD false = true then _ else _) = _
    rw [show (((0 : Nat)) : Int) = 0 from rfl, h0']
    show ((out ++ [1]) ++ [0]).reverse = (out ++ [1, 0]).reverse
    rw [List.append_assoc]; rfl
  | j + 1, m, out, h, h1, h0, hk => by
    have g := line_get n (show j < k by omega)
    have st : liveK (lineL k n) (j + 1 + 2) m out = liveK (lineL k n) (j + 2) (putI ((j + 1 : Nat) : Int) true (putI 0 true m)) (out ++ [((j + 2 : Nat) : Int)]) := by
      show (if (lkI ((j + 2 : Nat) : Int) m).getD false = true then liveK (lineL k n) (j + 2) (putsB (((lineL k n)[j + 2]?).getD ⟨0, [], []⟩).args m) (out ++ [((j + 2 : Nat) : Int)]) else _) = _
      rw [show lkI ((j + 2 : Nat) : Int) m = some true from h1, g]; rfl
    rw [st, live_line n j _ _ (by omega) (by rw [lkI_put, if_pos rfl]) (fun _ => by rw [lkI_put, if_neg (by omega), lkI_put, if_pos rfl]) hk]
    show ((out ++ [((j + 2 : Nat) : Int)]) ++ descL (j + 2)).reverse = (out ++ (((j + 2 : Nat) : Int) :: descL (j + 2))).reverse
    rw [List.append_assoc]; rfl
theorem desc_eq : ∀ r, descL r = (((List.range r).reverse).map fun i => ((i : Nat) : Int))
  | 0 => rfl
  | r + 1 => by simp [List.range_succ, descL, desc_eq r]
theorem liveF_line {k : Nat} (n : Int) (hk : 1 ≤ k) (h20 : k ≤ 20) : liveF (lineL k n) = (((List.range (k + 2)).reverse).map fun i => ((i : Nat) : Int)).reverse := by
  unfold liveF
  rw [if_pos (check_line n h20), line_len]
  have e : (((k + 2 : Nat) : Int) - 1) = ((k + 1 : Nat) : Int) := by omega
  rw [e, live_line n k _ [] (Nat.le_refl _) (by simp [lkI]) (fun h => absurd h (Nat.lt_irrefl _)) (by omega), List.nil_append, desc_eq]
end Go.AM

namespace Go.AM
open Go Go.Proofs
set_option maxRecDepth 100000
set_option maxHeartbeats 16000000

abbrev One1 : Tn := ([], [4294967296])
abbrev OneK (m : Nat) : Tn := ([], [(m : Int) * 4294967296])
def hfL (k : Nat) : Nat → Ts
  | 0 => [(((k + 1 : Nat) : Int), One1)]
  | m + 1 => putI ((k - m : Nat) : Int) One1 (putI 0 (OneK (m + 1)) (hfL k m))
theorem hfL_0 (k : Nat) : ∀ m, m ≤ k → lkI 0 (hfL k m) = if m = 0 then none else some (OneK m)
  | 0, _ => by simp only [hfL, lkI]; rw [if_neg (by omega), if_pos trivial]
  | m + 1, h => by simp only [hfL]; rw [lkI_put, if_neg (by omega), lkI_put, if_pos rfl, if_neg (by omega)]
theorem hfL_none (k : Nat) : ∀ m j, m ≤ k → 1 ≤ j → j + m < k + 1 → lkI ((j : Nat) : Int) (hfL k m) = none
  | 0, j, _, h1, h2 => by simp only [hfL, lkI]; rw [if_neg (by omega)]
  | m + 1, j, h, h1, h2 => by simp only [hfL]; rw [lkI_put, if_neg (by omega), lkI_put, if_neg (by omega)]; exact hfL_none k m j (by omega) h1 (by omega)
theorem hfL_top (k : Nat) : ∀ m, m ≤ k → lkI ((k + 1 - m : Nat) : Int) (hfL k m) = some One1
  | 0, _ => by simp only [hfL, lkI]; rw [if_pos (by omega)]
  | m + 1, h => by simp only [hfL]; rw [lkI_put, if_pos (by omega)]
theorem lineV_sh (w n : Int) : ∀ k, ∀ t ∈ lineV w n k, checkS t.1 = true
  | 0, t, h => by
    simp only [lineV, List.mem_cons, List.not_mem_nil, or_false] at h
    rcases h with rfl | rfl <;> rfl
  | k + 1, t, h => by
    simp only [lineV, List.mem_append, List.mem_singleton] at h
    rcases h with h | rfl
    · exact lineV_sh w n k t h
    · rfl
theorem outL_skip (V : List Tn) (D : Ts) : ∀ (l : List Nd) (i : Nat) (acc : List Tn), (∀ n ∈ l, n.op ≠ 2) → outL V D l i acc = acc
  | [], _, _, _ => rfl
  | n :: l, i, acc, h => by
    simp only [outL]
    rw [if_neg (h n List.mem_cons_self)]
    exact outL_skip V D l (i + 1) acc fun n hn => h n (List.mem_cons_of_mem _ hn)
theorem i64_one : I64s [4294967296] := i64s_dec (by decide)
theorem fold_one {w : List Int} : PureC Tryz.prog fi_tensor_Fold [dT [] [4294967296], dI []] (dTE (One1, 0)) := by
  have := p_tensor_Fold (s := []) (d := [4294967296]) (g := []) (by decide +kernel) (by decide +kernel) i64_one (by unfold FoldOk; decide +kernel)
  rw [show foldD [] [4294967296] [] = [4294967296] from by decide +kernel] at this
  exact this
theorem back_const (n x : Int) : PureC Tryz.prog fi_vjp_Back [dNd (cN n), dTs [], dT [] [x], dT [] [4294967296]] (.tup [dTs [], dN 0]) := by
  have := p_vjp_Back (cN n) [] ([], [x]) One1 [] [] (by decide) rfl (by decide) rfl (fun _ k hk => absurd hk (Nat.not_lt_zero _))
  have hb : backP (cN n) [] ([], [x]) One1 [] = ([], 0) := by
    unfold backP
    simp only [List.map_nil]
    rw [if_pos (by rw [check_num, check_num]; rfl), infer_const, if_pos rfl, if_pos ⟨rfl, rfl⟩]; rfl
  rw [hb] at this; exact this
theorem back_add (i : Nat) (x y z : Int) : PureC Tryz.prog fi_vjp_Back [dNd (aN10 i), dTs [([], [x]), ([], [y])], dT [] [z], dT [] [4294967296]] (.tup [dTs [One1, One1], dN 0]) := by
  have := p_vjp_Back (aN10 i) [([], [x]), ([], [y])] ([], [z]) One1 [vsV 0, vsV 1] [(One1, 0), (One1, 0)] (by show 2 ≤ 1000; decide) rfl (by decide) rfl (fun _ k hk => by
    have : k = 0 ∨ k = 1 := by simp at hk; omega
    rcases this with rfl | rfl
    · exact ⟨_, _, rfl, m_same (t := [([], [x]), ([], [y])]) (g := One1) (k := 0) (by show 0 < 2; decide) (fold_one (w := []))⟩
    · exact ⟨_, _, rfl, m_same (t := [([], [x]), ([], [y])]) (g := One1) (k := 1) (by show 1 < 2; decide) (fold_one (w := []))⟩)
  have hb : backP (aN10 i) [([], [x]), ([], [y])] ([], [z]) One1 [(One1, 0), (One1, 0)] = ([One1, One1], 0) := by
    unfold backP
    simp only [List.map_cons, List.map_nil]
    rw [if_pos (by rw [check_num, check_num]; rfl), infer_add, if_pos rfl, if_pos ⟨rfl, rfl⟩]; rfl
  rw [hb] at this; exact this
theorem two_OneK {m : Nat} (hm : m ≤ 20) : PureC Tryz.prog fi_elem_Two [dN 10, dT [] [(m : Int) * 4294967296], dT [] [4294967296]] (dTE (OneK (m + 1), 0)) := by
  have i1 : I64s [(m : Int) * 4294967296] := fun x hx => by rw [List.mem_singleton.1 hx]; unfold I64; omega
  have k := k_Add (s := []) (t := []) i1 i64_one
  have hf : fAdd ((m : Int) * 4294967296) 4294967296 = (((m + 1 : Nat) : Int) * 4294967296, 0) := by
    unfold fAdd
    have e1 : (m : Int) * 4294967296 + 4294967296 = ((m + 1 : Nat) : Int) * 4294967296 := by omega
    rw [e1]
    exact rng_in (by unfold I64; omega)
  rw [two1 fAdd _ _ (by rw [hf]), hf] at k
  exact k
def lineH (k m : Nat) : Ts := hfL k (min m k)
def lineD (k m : Nat) : Ts := if m ≤ k + 1 then [] else if k = 0 then [] else [(0, OneK k)]
def lineLv (k : Nat) : List Nat := if k = 0 then [1] else (List.range (k + 2)).reverse
theorem lineLv_live (k : Nat) (n : Int) (h : k ≤ 20) : liveF (lineL k n) = ((lineLv k).map fun i => ((i : Nat) : Int)).reverse := by
  unfold lineLv
  by_cases h0 : k = 0
  · subst h0
    rw [if_pos rfl]
    have hc := check_line (k := 0) n (by omega)
    unfold liveF
    rw [if_pos hc]
    rfl
  · rw [if_neg h0]; exact liveF_line n (by omega) h
theorem lineL_nodes {k : Nat} {n : Int} {x : Nd} (h : x ∈ lineL k n) : x.args.length ≤ 2 ∧ (x.nums = [] ∨ x.nums = [0] ∨ x.nums = [n]) := by
  simp only [lineL, addsL, List.mem_append, List.mem_cons, List.not_mem_nil, or_false, List.mem_map, List.mem_range] at h
  rcases h with (rfl | rfl) | ⟨j, _, rfl⟩
  · exact ⟨by decide, .inr (.inl rfl)⟩
  · exact ⟨by show 0 ≤ 2; decide, .inr (.inr rfl)⟩
  · exact ⟨by show 2 ≤ 2; decide, .inl rfl⟩
theorem outL_line (k : Nat) (n w : Int) (h : k ≤ 20) : outL (lineV w n k) (lineD k (lineLv k).length) (lineL k n) 0 (List.replicate 8 ([], [])) = [([], [(k : Int) * 4294967296]), ([], []), ([], []), ([], []), ([], []), ([], []), ([], []), ([], [])] := by
  have hs : ∀ x ∈ cN n :: addsL k, x.op ≠ 2 := fun x hx => by
    simp only [addsL, List.mem_cons, List.mem_map, List.mem_range] at hx
    rcases hx with rfl | ⟨j, _, rfl⟩
    · show (3 : Int) ≠ 2; decide
    · show (10 : Int) ≠ 2; decide
  show outL (lineV w n k) _ (⟨2, [], [0]⟩ :: (cN n :: addsL k)) 0 _ = _
  rw [outL, outL_skip _ _ _ _ _ hs]
  have h20 : ((⟨2, [], [0]⟩ : Nd)).op = 2 := rfl
  rw [if_pos h20]
  have hh : (hd ((⟨2, [], [0]⟩ : Nd)).nums 0) = 0 := rfl
  rw [hh, lineV_0]
  by_cases h0 : k = 0
  · subst h0; rfl
  · have hl : (lineLv k).length = k + 2 := by unfold lineLv; rw [if_neg h0]; simp
    have hD : lineD k (k + 2) = [(0, OneK k)] := by unfold lineD; rw [if_neg (by omega), if_neg h0]
    rw [hl, hD]; rfl
theorem k_line {w n : Int} (hw : -1125899906842624 ≤ w ∧ w ≤ 1125899906842624) (hn : -1125899906842624 ≤ n ∧ n ≤ 1125899906842624) {k : Nat} (hk : k ≤ 20) :
    PureC Tryz.prog fi_grad_All [dNds (lineL k n), dT [] [], dTs [([], [w])]] (dG [([], [(k : Int) * 4294967296]), ([], []), ([], []), ([], []), ([], []), ([], []), ([], []), ([], [])] ((k : Int) * w + n) (-1) 0) := by
  have hM : MaxN = 140737488355328 := rfl
  have hlen := line_len k n
  have kA := p_eval_All (lineL k n) ([], []) [([], [w])] (by omega) (fun x hx => by have := (lineL_nodes hx).1; omega) (by show 1 ≤ MaxN; omega) I64s.nil (fun x hx => by rw [List.mem_singleton.1 hx]; exact i64s_one (by unfold I64; omega)) (fun x hx => by
    rcases (lineL_nodes hx).2 with h | h | h
    · rw [h]; exact I64s.nil
    · rw [h]; exact i64s_dec (by decide)
    · rw [h]; exact i64s_one (by unfold I64; omega))
  rw [evAll_line hw hn hk] at kA
  have e1 : (lineL k n).length - 1 = k + 1 := by omega
  have hgl : gT (lineV w n k) (k + 1) = ([], [(k : Int) * w + n]) := lineV_get w n k k (Nat.le_refl _)
  have hone : oneT (lineV w n k) (lineL k n) = One1 := by
    show (fullF (gT (lineV w n k) ((lineL k n).length - 1)).1 4294967296).1 = _
    rw [e1, hgl, full_is _ (by show checkS [] = true; rfl)]; rfl
  have hVl := lineV_len w n k
  have kG := p_grad_All_ok (l := lineL k n) (input := ([], [])) (ps := [([], [w])]) (V := lineV w n k) (x := (k : Int) * w + n) (lv := lineLv k) (H := lineH k) (D := lineD k) kA (by omega) (by omega) (by omega) (check_line n hk) (by rw [e1, hgl]) (by rw [e1, hgl]; rfl) (lineV_sh w n k) (lineLv_live k n hk) (by unfold lineLv; split <;> simp <;> omega) (by rw [e1, hone]; show hfL k (min 0 k) = _; rw [Nat.zero_min]; rfl) rfl (fun m hm => by
    by_cases h0 : k = 0
    · subst h0
      have : m = 0 := by
        have : (lineLv 0).length = 1 := rfl
        omega
      subst this
      exact m_downN (l := lineL 0 n) (V := lineV w n 0) (H := lineH 0 0) (D := []) (i := 1) (op := 3) (args := []) (nums := [n]) (w := One1) (L := []) (Hs := fun _ => lineH 0 0) rfl (by decide) rfl (fun a ha => absurd ha List.not_mem_nil) (by decide) (by show 1 < 2; decide) (by
        have := back_const n n
        rw [show gT (lineV w n 0) 1 = ([], [n]) from rfl]; exact this) (by decide) rfl (fun k hk => absurd hk (Nat.not_lt_zero _))
    have hLv : lineLv k = (List.range (k + 2)).reverse := if_neg h0
    have hm2 : m < k + 2 := by rw [hLv] at hm; simpa using hm
    have hget : (lineLv k)[m] = k + 1 - m := by simp only [hLv, List.getElem_reverse, List.getElem_range, List.length_range]; omega
    rw [hget]
    by_cases hmk : m < k
    · have e2 : k + 1 - m = (k - 1 - m) + 2 := by omega
      have hd0 : lineD k m = [] := if_pos (by omega)
      have hd1 : lineD k (m + 1) = [] := if_pos (by omega)
      have hh0 : lineH k m = hfL k m := by unfold lineH; rw [Nat.min_eq_left (by omega)]
      have hh1 : lineH k (m + 1) = hfL k (m + 1) := by unfold lineH; rw [Nat.min_eq_left (by omega)]
      rw [hd0, hd1, hh0, hh1]
      have hi := line_get n (show k - 1 - m < k by omega)
      have ht : (aN10 (k - 1 - m)).args.map (fun a => gT (lineV w n k) a.toNat) = [([], [w]), ([], [((k - 1 - m : Nat) : Int) * w + n])] := by
        simp only [aN10, List.map_cons, List.map_nil, Int.toNat_natCast]
        rw [show (0 : Int).toNat = 0 from rfl, lineV_0, lineV_get w n k (k - 1 - m) (by omega)]
      have ho : gT (lineV w n k) (k + 1 - m) = ([], [((k - m : Nat) : Int) * w + n]) := by
        rw [show k + 1 - m = (k - m) + 1 from by omega, lineV_get w n k (k - m) (by omega)]
      have := m_downN (l := lineL k n) (V := lineV w n k) (H := hfL k m) (D := []) (i := k + 1 - m) (op := 10) (args := (aN10 (k - 1 - m)).args) (nums := []) (w := One1) (L := [One1, One1]) (Hs := fun j => if j = 0 then hfL k m else if j = 1 then putI 0 (OneK (m + 1)) (hfL k m) else hfL k (m + 1)) (by rw [e2]; exact hi) (by decide) (hfL_top k m (by omega)) (fun a ha => by
        simp only [aN10, List.mem_cons, List.not_mem_nil, or_false] at ha
        rcases ha with rfl | rfl <;> omega) (by show 2 ≤ 2; decide) (by omega) (by
        rw [ht, ho]; exact back_add _ _ _ _) (by show 2 ≤ 2; decide) rfl (fun j hj => by
        have : j = 0 ∨ j = 1 := by simp at hj; omega
        rcases this with rfl | rfl
        · refine ⟨OneK (m + 1), rfl, ?_⟩
          have hl0 := hfL_0 k m (by omega)
          show (lkI 0 (hfL k m) = none ∧ _) ∨ ∃ was : Tn, lkI 0 (hfL k m) = some was ∧ _
          by_cases hm0 : m = 0
          · subst hm0
            left
            exact ⟨by rw [hl0, if_pos rfl], by show OneK 1 = One1; simp [OneK, One1]⟩
          · right
            exact ⟨OneK m, by rw [hl0, if_neg hm0], two_OneK (by omega)⟩
        · refine ⟨One1, ?_, .inl ⟨?_, rfl⟩⟩
          · show hfL k (m + 1) = putI (((k - 1 - m + 1 : Nat)) : Int) One1 (putI 0 (OneK (m + 1)) (hfL k m))
            rw [show k - 1 - m + 1 = k - m from by omega]; rfl
          · show lkI (((k - 1 - m + 1 : Nat)) : Int) (putI 0 (OneK (m + 1)) (hfL k m)) = none
            rw [lkI_put, if_neg (by omega)]
            exact hfL_none k m _ (by omega) (by omega) (by omega))
      exact this
    · by_cases hmk1 : m = k
      · subst hmk1
        have hd0 : lineD m m = [] := if_pos (by omega)
        have hd1 : lineD m (m + 1) = [] := if_pos (by omega)
        have hh0 : lineH m m = hfL m m := by unfold lineH; rw [Nat.min_self]
        have hh1 : lineH m (m + 1) = hfL m m := by unfold lineH; rw [Nat.min_eq_right (by omega)]
        rw [hd0, hd1, hh0, hh1]
        have e2 : m + 1 - m = 1 := by omega
        rw [e2]
        have htop := hfL_top m m (Nat.le_refl _)
        rw [e2] at htop
        exact m_downN (l := lineL m n) (V := lineV w n m) (H := hfL m m) (D := []) (i := 1) (op := 3) (args := []) (nums := [n]) (w := One1) (L := []) (Hs := fun _ => hfL m m) rfl (by decide) htop (fun a ha => absurd ha List.not_mem_nil) (by decide) (by omega) (by
          rw [lineV_get w n m 0 (Nat.zero_le _)]; exact back_const _ _) (by decide) rfl (fun k hk => absurd hk (Nat.not_lt_zero _))
      · obtain rfl : m = k + 1 := by omega
        have hd0 : lineD k (k + 1) = [] := if_pos (by omega)
        have hd1 : lineD k (k + 1 + 1) = [(0, OneK k)] := by unfold lineD; rw [if_neg (by omega), if_neg h0]
        have hh0 : lineH k (k + 1) = hfL k k := by unfold lineH; rw [Nat.min_eq_right (by omega)]
        have hh1 : lineH k (k + 1 + 1) = hfL k k := by unfold lineH; rw [Nat.min_eq_right (by omega)]
        rw [hd0, hd1, hh0, hh1]
        have e2 : k + 1 - (k + 1) = 0 := by omega
        rw [e2]
        exact m_downP (l := lineL k n) (V := lineV w n k) (H := hfL k k) (D := []) (i := 0) (args := []) (nums := []) (p := 0) (w := OneK k) rfl (by have := hfL_0 k k (Nat.le_refl _); rw [if_neg h0] at this; exact this) ⟨OneK k, rfl, .inl ⟨rfl, rfl⟩⟩)
  rw [outL_line k n w hk] at kG
  exact kG
end Go.AM

namespace Go.AM
open Go
theorem X_nF1 {G : Ground} {os : List FOp} {K : AS → Prop} {d : Nat} {g : Option (Nat × Bool)} {e : Env} {σ : Sto} {ex : List AV} {l : Nat} {z : List PV} {ps : List (Nat × Opd)} {k len : Nat} {rows : List (List PV)} (hd : d < G.nt) (h : evN (.lit 1 (l + 1) z ps) e d = some (.arr true k rows, .one (.msl d 0 k len none))) (hl : len = rows.length)
    (kk : (lo σ d = .none ∧ AS.nr d { env := e, σ := σ, ex := ex } = true) ∧ SK G os K { env := (d, .one (.p (.sl rows))) :: e, σ := σ, ex := ex }) : SKb G true ⟨some d, g, .n (.lit 1 (l + 1) z ps)⟩ os K { env := e, σ := σ, ex := ex } := X_nF hd h hl kk
theorem goM {A B P Q : Prop} (F : A) (C : B) (k : Q) (h : A → B → Bx Q → P := by
  intro F C k
  repeat' (first | apply T_then | apply then_ret | apply then_exit | apply then_goto | apply rnd_exit | apply rnd_ret | apply rnd_goto | apply noGo_normal | apply noGo_ret | apply noGo_exit | apply jmp_normal | apply jmp_ret | apply jmp_exit | apply jmp_goto | apply inB_normal | apply inB_ret | apply inB_goto | apply inB_exit | refine inB_exit_ne rfl ?_ | ((first | apply T_srK fw | apply T_regK fw); · ((try simp only [TOps.flat, List.cons_append, List.nil_append]); repeat (first | apply X_g0 | apply X_g | apply S_keep | apply X_skip | apply X_skipN | refine X_call ?_ ⟨_, _, _, _, _, _, rfl, rfl, rfl, by rw [hP]; first | assumption | apply C | apply C.1 | apply C.2 | apply C.2.1 | apply C.2.2.1 | apply C.2.2.2.1 | apply C.2.2.2.2.1 | apply C.2.2.2.2.2.1 | apply C.2.2.2.2.2.2.1 | apply C.2.2.2.2.2.2.2.1 | apply C.2.2.2.2.2.2.2.2.1 | apply C.2.2.2.2.2.2.2.2.2.1 | apply C.2.2.2.2.2.2.2.2.2.2.1 | apply C.2.2.2.2.2.2.2.2.2.2.2.1 | apply C.2.2 | apply C.2.2.2 | apply C.2.2.2.2 | apply C.2.2.2.2.2 | apply C.2.2.2.2.2.2 | apply C.2.2.2.2.2.2.2 | apply C.2.2.2.2.2.2.2.2 | apply C.2.2.2.2.2.2.2.2.2 | apply C.2.2.2.2.2.2.2.2.2.2 | apply C.2.2.2.2.2.2.2.2.2.2.2⟩ ?_ | refine X_callI ?_ ⟨_, _, _, _, _, _, _, rfl, rfl, rfl, (by rw [hP]; first | assumption | apply C | apply C.1 | apply C.2 | apply C.2.1 | apply C.2.2.1 | apply C.2.2.2.1 | apply C.2.2.2.2.1 | apply C.2.2.2.2.2.1 | apply C.2.2.2.2.2.2.1 | apply C.2.2.2.2.2.2.2.1 | apply C.2.2.2.2.2.2.2.2.1 | apply C.2.2.2.2.2.2.2.2.2.1 | apply C.2.2.2.2.2.2.2.2.2.2.1 | apply C.2.2.2.2.2.2.2.2.2.2.2.1 | apply C.2.2 | apply C.2.2.2 | apply C.2.2.2.2 | apply C.2.2.2.2.2 | apply C.2.2.2.2.2.2 | apply C.2.2.2.2.2.2.2 | apply C.2.2.2.2.2.2.2.2 | apply C.2.2.2.2.2.2.2.2.2 | apply C.2.2.2.2.2.2.2.2.2.2 | apply C.2.2.2.2.2.2.2.2.2.2.2), rfl, (by rw [hP]; first | assumption | apply C | apply C.1 | apply C.2 | apply C.2.1 | apply C.2.2.1 | apply C.2.2.2.1 | apply C.2.2.2.2.1 | apply C.2.2.2.2.2.1 | apply C.2.2.2.2.2.2.1 | apply C.2.2.2.2.2.2.2.1 | apply C.2.2.2.2.2.2.2.2.1 | apply C.2.2.2.2.2.2.2.2.2.1 | apply C.2.2.2.2.2.2.2.2.2.2.1 | apply C.2.2.2.2.2.2.2.2.2.2.2.1 | apply C.2.2 | apply C.2.2.2 | apply C.2.2.2.2 | apply C.2.2.2.2.2 | apply C.2.2.2.2.2.2 | apply C.2.2.2.2.2.2.2 | apply C.2.2.2.2.2.2.2.2 | apply C.2.2.2.2.2.2.2.2.2 | apply C.2.2.2.2.2.2.2.2.2.2 | apply C.2.2.2.2.2.2.2.2.2.2.2)⟩ ?_ | refine X_callM ?_ (callM_mk rfl rfl (by rw [hP]; first | assumption | apply C | apply C.1 | apply C.2 | apply C.2.1 | apply C.2.2.1 | apply C.2.2.2.1 | apply C.2.2.2.2.1 | apply C.2.2.2.2.2.1 | apply C.2.2.2.2.2.2.1 | apply C.2.2.2.2.2.2.2.1 | apply C.2.2.2.2.2.2.2.2.1 | apply C.2.2.2.2.2.2.2.2.2.1 | apply C.2.2.2.2.2.2.2.2.2.2.1 | apply C.2.2.2.2.2.2.2.2.2.2.2.1 | apply C.2.2 | apply C.2.2.2 | apply C.2.2.2.2 | apply C.2.2.2.2.2 | apply C.2.2.2.2.2.2 | apply C.2.2.2.2.2.2.2 | apply C.2.2.2.2.2.2.2.2 | apply C.2.2.2.2.2.2.2.2.2 | apply C.2.2.2.2.2.2.2.2.2.2 | apply C.2.2.2.2.2.2.2.2.2.2.2) (by simp [lo]) (by simp) (by simp [AS.nr, AV.has, AC.has, AC.has.hasL, AO.nr, lo, DV.av] <;> assumption)) ?_ | apply X_q | apply X_st | apply X_nF1 | apply X_n | apply X_s | apply SKs0 | apply SKs2 | apply SKs1 | refine ⟨⟨rfl, rfl⟩, ?_⟩ | refine ⟨⟨rfl, ?_⟩, ?_⟩ | refine ⟨?_, ?_⟩ | (· (try simp only [go_sem, seval, reduceIte, ↓reduceIte, Bool.not_eq_true, reduceCtorEq, beq_false, beq_true, hn, hP, Int.lt_irrefl, Int.le_refl, Nat.lt_irrefl, Nat.le_refl, List.length_set, Int.toNat_one, Int.toNat_zero, F]); first | done | rfl)))) | ((first | apply T_sdF fw (by rw [hP]; rfl) (by decide +kernel) | apply T_drF fw (by rw [hP]; rfl) (by decide +kernel)); · ((try simp only [TOps.flat, List.cons_append, List.nil_append]); repeat (first | apply Y_g0 | apply Y_g | apply Y_skip | apply Y_q | refine Y_call ⟨_, _, _, _, _, _, rfl, rfl, rfl, by rw [hP]; first | assumption | apply C | apply C.1 | apply C.2 | apply C.2.1 | apply C.2.2.1 | apply C.2.2.2.1 | apply C.2.2.2.2.1 | apply C.2.2.2.2.2.1 | apply C.2.2.2.2.2.2.1 | apply C.2.2.2.2.2.2.2.1 | apply C.2.2.2.2.2.2.2.2.1 | apply C.2.2.2.2.2.2.2.2.2.1 | apply C.2.2.2.2.2.2.2.2.2.2.1 | apply C.2.2.2.2.2.2.2.2.2.2.2.1 | apply C.2.2 | apply C.2.2.2 | apply C.2.2.2.2 | apply C.2.2.2.2.2 | apply C.2.2.2.2.2.2 | apply C.2.2.2.2.2.2.2 | apply C.2.2.2.2.2.2.2.2 | apply C.2.2.2.2.2.2.2.2.2 | apply C.2.2.2.2.2.2.2.2.2.2 | apply C.2.2.2.2.2.2.2.2.2.2.2⟩ ?_ ?_ | refine RunF_nil (P := G.P) ?_ | (· (try simp only [go_sem, seval, reduceIte, ↓reduceIte, Bool.not_eq_true, reduceCtorEq, beq_false, beq_true, hn, hP, Int.lt_irrefl, Int.le_refl, Nat.lt_irrefl, Nat.le_refl, List.length_set, Int.toNat_one, Int.toNat_zero, F]); first | done | rfl)))) | ((first | apply T_sd fw (by rw [hP]; rfl) | apply T_dr fw (by rw [hP]; rfl)); · ((try simp only [go_sem, seval, reduceIte, ↓reduceIte, bne, beq_false, beq_true, Bool.not_eq_true, Bool.if_true_right, decide_not, reduceCtorEq, hP, Int.lt_irrefl, Int.le_refl, Nat.lt_irrefl, Nat.le_refl, List.length_set, Int.toNat_one, Int.toNat_zero, F]); (repeat ((first | (refine ⟨_, ⟨_, _, _, _, _, _, rfl, rfl, rfl, (by first | assumption | apply C | apply C.1 | apply C.2 | apply C.2.1 | apply C.2.2.1 | apply C.2.2.2.1 | apply C.2.2.2.2.1 | apply C.2.2.2.2.2.1 | apply C.2.2.2.2.2.2.1 | apply C.2.2.2.2.2.2.2.1 | apply C.2.2.2.2.2.2.2.2.1 | apply C.2.2.2.2.2.2.2.2.2.1 | apply C.2.2.2.2.2.2.2.2.2.2.1 | apply C.2.2.2.2.2.2.2.2.2.2.2.1 | apply C.2.2 | apply C.2.2.2 | apply C.2.2.2.2 | apply C.2.2.2.2.2 | apply C.2.2.2.2.2.2 | apply C.2.2.2.2.2.2.2 | apply C.2.2.2.2.2.2.2.2 | apply C.2.2.2.2.2.2.2.2.2 | apply C.2.2.2.2.2.2.2.2.2.2 | apply C.2.2.2.2.2.2.2.2.2.2.2)⟩, ?_⟩)); (try simp only [go_sem, seval, reduceIte, ↓reduceIte, bne, beq_false, beq_true, Bool.not_eq_true, Bool.if_true_right, decide_not, reduceCtorEq, hP, Int.lt_irrefl, Int.le_refl, Nat.lt_irrefl, Nat.le_refl, List.length_set, Int.toNat_one, Int.toNat_zero, F]))); (first | done | exact rfl))) | apply T_seq | apply T_block | refine T_scopeJ 0 rfl ?_ | apply T_scope | apply T_goto | apply T_ret | apply T_skip | apply T_exit | apply T_label | refine T_condT rfl ?_ | refine T_condF rfl ?_)
  exact k.of) : P := h F C ⟨k⟩
end Go.AM

namespace Go.AM
open Go Go.Proofs
set_option maxRecDepth 100000
set_option maxHeartbeats 16000000

theorem p_line15 {k : Nat} (n : Int) (hk : k ≤ 20) : PureC Tryz.prog fi_fullerlaw15_line [dN k, dN n] (dNds (lineL k n)) := by
  refine pure_fullerlaw15_line (by simp) fun G hP hn => ?_
  refine goM trivial trivial ?_
  refine T_for k (fun m (_ : Unit) => { env := [(0, aN k), (5, .one (.msl 12 0 3 (m + 2) none)), (6, aN m)], σ := [(12, .arr true 3 ((lineL m n).map rNd))] })
    (fun _ _ => True) () trivial ?_ fun m _ hm _ => ?_
  · refine Weak.sub fun q hq => ?_
    simp only [List.mem_cons, List.not_mem_nil, or_false] at hq
    rcases hq with rfl
    rfl
  have hl := line_len m n
  by_cases hlt : m < k
  · have d1 : (m : Int) < k := by omega
    have v1 : IntKind.i64.wrap ((m : Int) + 1) = ((m + 1 : Nat) : Int) := by rw [wrap_in (by omega) (by omega)]; rfl
    have v2 : IntKind.i64.wrap (((m + 2 : Nat) : Int) - 1) = ((m + 1 : Nat) : Int) := by rw [wrap_in (by omega) (by omega)]; omega
    have c1 : (m + 2 + 1) * 56 ≤ 2 ^ 40 := by omega
    have c2 : m + 2 + 1 ≤ 2 ^ 40 := by omega
    refine goM (aa d1 <| aa v1 <| aa v2 <| aa hl <| aa c1 c2) trivial ?_
    refine rnd_next hlt () trivial (Weak.sub fun q hq => ?_)
    simp only [List.mem_cons, List.not_mem_nil, or_false] at hq
    rcases hq with rfl
    rw [line_succ]
    simp [lo]
  obtain rfl : m = k := by omega
  have d1 : ¬ (m : Int) < m := by omega
  refine goM d1 trivial ?_
  exact ends_list rfl rfl (by simp [hl])
end Go.AM

namespace Go.AM
open Go Go.Proofs
set_option maxRecDepth 100000
set_option maxHeartbeats 16000000

theorem p_GradLines (t : Nat) (w n : Int) (ht : t < 256) (hw : I64 w) (hn2 : I64 n) : PureC Tryz.prog fi_fullerlaw15_GradLines [.one (.int .u8 t), dN w, dN n] (dB true) := by
  refine pure_fullerlaw15_GradLines (by simp) fun G hP hn => ?_
  have k0 := p_awake15
  have hm : ((t : Int).tmod 20) = ((t % 20 : Nat) : Int) := by rw [Int.tmod_eq_emod_of_nonneg (by omega)]; rfl
  have hm20 : t % 20 < 20 := Nat.mod_lt _ (by decide)
  have v1 : IntKind.i64.wrap ((t % 20 : Nat) : Int) = ((t % 20 : Nat) : Int) := wrap_in (by omega) (by omega)
  have hI := hw
  unfold I64 at hw hn2
  by_cases g1 : w < -1125899906842624
  · refine go (aa hm <| aa v1 g1) k0 ?_
    exact ends_ret rfl rfl rfl rfl
  by_cases g2 : w > 1125899906842624
  · refine go (aa hm <| aa v1 <| aa g1 g2) k0 ?_
    exact ends_ret rfl rfl rfl rfl
  by_cases g3 : n < -1125899906842624
  · refine go (aa hm <| aa v1 <| aa g1 <| aa g2 g3) k0 ?_
    exact ends_ret rfl rfl rfl rfl
  by_cases g4 : n > 1125899906842624
  · refine go (aa hm <| aa v1 <| aa g1 <| aa g2 <| aa g3 g4) k0 ?_
    exact ends_ret rfl rfl rfl rfl
  have k1 := p_line15 (k := t % 20) n (by omega)
  have k2 := k_line (w := w) (n := n) (by omega) (by omega) (k := t % 20) (by omega)
  have k3 := c_same' [((t % 20 : Nat) : Int) * 4294967296]
  generalize t % 20 = k at *
  have hs := small_line (w := w) (n := n) (k := k) (by omega) (by omega) (by omega)
  have h2 : -22517998136852480 ≤ (k : Int) * w ∧ (k : Int) * w ≤ 22517998136852480 := by
    have h1 : (k : Int) * w ≤ (k : Int) * 1125899906842624 := Int.mul_le_mul_of_nonneg_left (by omega) (by omega)
    have h2 : (k : Int) * (-1125899906842624) ≤ (k : Int) * w := Int.mul_le_mul_of_nonneg_left (by omega) (by omega)
    omega
  have v2 : IntKind.i64.wrap ((k : Int) * 4294967296) = (k : Int) * 4294967296 := wrap_in (by omega) (by omega)
  have v3 : IntKind.i64.wrap ((k : Int) * w) = (k : Int) * w := wrap_in (by omega) (by omega)
  have v4 : IntKind.i64.wrap ((k : Int) * w + n) = (k : Int) * w + n := wrap_in (by omega) (by omega)
  refine goL (aa hm <| aa v1 <| aa g1 <| aa g2 <| aa g3 <| aa g4 <| aa v2 <| aa v3 v4) (aa k0 <| aa k1 <| aa k2 k3) ?_
  exact ends_ret rfl rfl rfl rfl
end Go.AM

