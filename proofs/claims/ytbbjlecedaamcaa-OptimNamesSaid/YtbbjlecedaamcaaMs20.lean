import Derived.Test.YtbbjlecedaamcaaMs19
import Derived.Lib.Mul64
set_option linter.unusedVariables false
set_option linter.unusedSimpArgs false
namespace Go.AM
open Go Go.Proofs

def prd : List Int → Int
  | [] => 1
  | m :: s => m * prd s
def Sides (s : List Int) : Prop := ∀ m ∈ s, 1 ≤ m ∧ m ≤ 16
theorem Sides.tail {m : Int} {s : List Int} (h : Sides (m :: s)) : Sides s := fun k hk => h k (by simp [hk])
theorem Sides.head {m : Int} {s : List Int} (h : Sides (m :: s)) : 1 ≤ m ∧ m ≤ 16 := h m (by simp)
theorem prd_pos : ∀ {s : List Int}, Sides s → 1 ≤ prd s
  | [], _ => by simp [prd]
  | m :: s, h => by
    have h1 := h.head
    have h2 := prd_pos h.tail
    simp only [prd]
    have : 1 * 1 ≤ m * prd s := Int.mul_le_mul h1.1 h2 (by omega) (by omega)
    omega
theorem prd_le : ∀ {s : List Int}, Sides s → prd s ≤ 16 ^ s.length
  | [], _ => by simp [prd]
  | m :: s, h => by
    have h1 := h.head
    have h2 := prd_le h.tail
    have h3 := prd_pos h.tail
    simp only [prd, List.length_cons]
    rw [Int.pow_succ, Int.mul_comm]
    exact Int.mul_le_mul h2 h1.2 (by omega) (by have : (0 : Int) ≤ 16 ^ s.length := Int.pow_nonneg (by decide); omega)
theorem prodW_eq : ∀ {s : List Int} {a : Int}, Sides s → 0 ≤ a → a * prd s ≤ 4611686018427387904 → prodW s a = a * prd s
  | [], a, _, _, _ => by simp [prodW, prd]
  | m :: s, a, h, h0, h1 => by
    have hm := h.head
    have hp := prd_pos h.tail
    simp only [prd, ← Int.mul_assoc] at h1
    have h2 : 0 ≤ a * m := Int.mul_nonneg h0 (by omega)
    have h3 : a * m * 1 ≤ a * m * prd s := Int.mul_le_mul_of_nonneg_left hp h2
    simp only [prodW]
    rw [wrap_in (by omega) (by omega), prodW_eq h.tail h2 h1]
    simp [prd, Int.mul_assoc]
theorem chk_eq : ∀ {s : List Int} {a : Int}, Sides s → chk s a = prodW s a
  | [], a, _ => rfl
  | m :: s, a, h => by
    have hm := h.head
    simp only [chk, prodW]
    rw [if_neg (by omega), chk_eq h.tail]
theorem chk_not : ∀ {s : List Int} {a : Int}, ¬ Sides s → chk s a = 0
  | [], a, h => absurd (fun m hm => by simp at hm) h
  | m :: s, a, h => by
    simp only [chk]
    split
    · rfl
    · rename_i hm
      refine chk_not fun hs => h fun k hk => ?_
      rcases List.mem_cons.1 hk with rfl | hk
      · omega
      · exact hs k hk
def ShapeOk (s : List Int) : Prop := s.length ≤ 3 ∧ Sides s ∧ prd s ≤ 64
theorem prodW_one {s : List Int} (h : Sides s) (h3 : s.length ≤ 3) : prodW s 1 = prd s := by
  have h1 := prd_le h
  have h2 : (16 : Int) ^ s.length ≤ 16 ^ 3 := by
    have : s.length = 0 ∨ s.length = 1 ∨ s.length = 2 ∨ s.length = 3 := by omega
    rcases this with e | e | e | e <;> rw [e] <;> decide
  have h4 : (16 : Int) ^ 3 = 4096 := by decide
  rw [prodW_eq h (by decide) (by omega)]
  omega
theorem checkS_iff {s : List Int} : checkS s = true ↔ ShapeOk s := by
  unfold checkS ShapeOk
  simp only [Bool.and_eq_true, Bool.not_eq_true', decide_eq_false_iff_not, decide_eq_true_eq]
  constructor
  · rintro ⟨h1, h2, h3⟩
    have h4 : s.length ≤ 3 := by omega
    by_cases hs : Sides s
    · rw [chk_eq hs, prodW_one hs h4] at h3
      exact ⟨h4, hs, h3⟩
    · rw [chk_not hs] at h2; omega
  · rintro ⟨h1, hs, h3⟩
    rw [chk_eq hs, prodW_one hs h1]
    have := prd_pos hs
    exact ⟨by omega, by omega, h3⟩
theorem sizeS_ok {s : List Int} (h : ShapeOk s) : sizeS s = prd s := by
  unfold sizeS
  rw [if_pos (checkS_iff.2 h), prodW_one h.2.1 h.1]
theorem sizeS_not {s : List Int} (h : ¬ ShapeOk s) : sizeS s = 0 := by
  unfold sizeS
  rw [if_neg (fun h' => h (checkS_iff.1 h'))]
theorem sizeS_nn (s : List Int) : 0 ≤ sizeS s ∧ sizeS s ≤ 64 := by
  by_cases h : ShapeOk s
  · rw [sizeS_ok h]
    have := prd_pos h.2.1
    have := h.2.2
    omega
  · rw [sizeS_not h]; omega
inductive InIdx : List Int → List Int → Prop
  | nil : InIdx [] []
  | cons {m k : Int} {s x : List Int} (h0 : 0 ≤ k) (h1 : k < m) (h : InIdx s x) : InIdx (m :: s) (k :: x)
def pl : List Int → List Int → Int → Int
  | m :: s, k :: x, a => pl s x (a * m + k)
  | _, _, a => a
theorem InIdx.length {s x : List Int} (h : InIdx s x) : s.length = x.length := by
  induction h with
  | nil => rfl
  | cons _ _ _ ih => simp [ih]
theorem pl_add {s x : List Int} (h : InIdx s x) (a : Int) : pl s x a = a * prd s + pl s x 0 := by
  induction h generalizing a with
  | nil => simp [pl, prd]
  | @cons m k s x h0 h1 h ih =>
    simp only [pl, prd]
    rw [ih (a * m + k), ih (0 * m + k)]
    simp [Int.add_mul, Int.mul_assoc, Int.add_assoc]
theorem pl_lt {s x : List Int} (h : InIdx s x) : 0 ≤ pl s x 0 ∧ pl s x 0 < prd s := by
  induction h with
  | nil => simp [pl, prd]
  | @cons m k s x h0 h1 h ih =>
    simp only [pl, prd]
    rw [pl_add h]
    have hp : 0 ≤ prd s := by omega
    have h2 : 0 ≤ k * prd s := Int.mul_nonneg h0 hp
    have h3 : (k + 1) * prd s ≤ m * prd s := Int.mul_le_mul_of_nonneg_right (by omega) hp
    simp only [Int.zero_mul, Int.zero_add]
    rw [Int.add_mul] at h3
    omega
theorem plW_ok {s x : List Int} (h : InIdx s x) : ∀ {a : Int}, 0 ≤ a → (a + 1) * prd s ≤ 4611686018427387904 → plW s x a = (pl s x a, 0) := by
  induction h with
  | nil => intro a _ _; rfl
  | @cons m k s x h0 h1 h ih =>
    intro a ha hb
    have hp : 1 ≤ prd s := by have := pl_lt h; omega
    have hm : 1 ≤ m := by omega
    simp only [prd, ← Int.mul_assoc] at hb
    have e1 : (a + 1) * m = a * m + m := by rw [Int.add_mul]; omega
    have h2 : 0 ≤ a * m := Int.mul_nonneg ha (by omega)
    have h3 : (a + 1) * m * 1 ≤ (a + 1) * m * prd s := Int.mul_le_mul_of_nonneg_left hp (by omega)
    have h4 : (a * m + k + 1) * prd s ≤ (a + 1) * m * prd s := Int.mul_le_mul_of_nonneg_right (by omega) (by omega)
    simp only [plW, pl]
    rw [if_neg (by omega), wrap_in (n := a * m) (by omega) (by omega), wrap_in (by omega) (by omega), ih (by omega) (by omega)]
theorem placeF_ok {s x : List Int} (h : ShapeOk s) (hx : InIdx s x) : placeF s x = (pl s x 0, 0) := by
  unfold placeF
  have := prd_pos h.2.1
  have := h.2.2
  rw [if_neg (by simp [checkS_iff.2 h, hx.length]), plW_ok hx (by omega) (by omega)]
theorem checkT_iff {s d : List Int} : checkT s d = true ↔ ShapeOk s ∧ (d.length : Int) = prd s := by
  unfold checkT
  simp only [Bool.and_eq_true, beq_iff_eq, checkS_iff]
  constructor
  · rintro ⟨h1, h2⟩; rw [sizeS_ok h1] at h2; exact ⟨h1, h2⟩
  · rintro ⟨h1, h2⟩; rw [sizeS_ok h1]; exact ⟨h1, h2⟩
def atF (s d x : List Int) : Int × Int := if (!checkT s d) = true then (0, 30) else if ((placeF s x).2 != 0) = true then (0, (placeF s x).2) else ((d[(placeF s x).1.toNat]?).getD 0, 0)
theorem atF_ok {s d x : List Int} (h : checkT s d = true) (hx : InIdx s x) : atF s d x = ((d[(pl s x 0).toNat]?).getD 0, 0) := by
  unfold atF
  rw [if_neg (by simp [h]), placeF_ok (checkT_iff.1 h).1 hx]
  simp
end Go.AM

namespace Go.AM
open Go Go.Proofs

def ix : List Int → Int → List Int
  | [], _ => []
  | m :: s, p => (p / prd s) % m :: ix s p
def dg : List Int → Int → List Int
  | [], _ => []
  | n :: r, p => p % n :: dg r (p / n)
theorem digs_eq : ∀ {l : List Int} {p : Int}, Sides l → 0 ≤ p → p ≤ 4611686018427387904 → digs l p = dg l p
  | [], _, _, _, _ => rfl
  | n :: r, p, h, h0, h1 => by
    have hn := h.head
    have h2 : 0 ≤ p / n := Int.ediv_nonneg h0 (by omega)
    have h3 : p / n ≤ p := Int.ediv_le_self n h0
    simp only [digs, dg]
    rw [Int.tmod_eq_emod_of_nonneg h0, Int.tdiv_eq_ediv_of_nonneg h0, wrap_in (by omega) (by omega), digs_eq h.tail h2 (by omega)]
theorem prd_append : ∀ (l k : List Int), prd (l ++ k) = prd l * prd k
  | [], k => by simp [prd]
  | m :: l, k => by simp [prd, prd_append l k, Int.mul_assoc]
theorem prd_reverse : ∀ (l : List Int), prd l.reverse = prd l
  | [] => rfl
  | m :: l => by simp [prd_append, prd_reverse l, prd, Int.mul_comm]
theorem dg_append : ∀ {l : List Int} {m p : Int}, Sides l → dg (l ++ [m]) p = dg l p ++ [(p / prd l) % m]
  | [], m, p, _ => by simp [dg, prd]
  | n :: l, m, p, h => by
    have hn := h.head
    simp only [List.cons_append, dg, prd]
    rw [dg_append h.tail, Int.ediv_ediv_of_nonneg (by omega)]
theorem Sides.reverse {s : List Int} (h : Sides s) : Sides s.reverse := fun m hm => h m (by simpa using hm)
theorem dg_rev : ∀ {s : List Int} {p : Int}, Sides s → (dg s.reverse p).reverse = ix s p
  | [], _, _ => rfl
  | m :: s, p, h => by
    simp only [List.reverse_cons, ix]
    rw [dg_append h.tail.reverse, List.reverse_append, prd_reverse]
    simp [dg_rev h.tail]
theorem idxF_eq {s : List Int} {p : Int} (h : Sides s) (h0 : 0 ≤ p) (h1 : p ≤ 4611686018427387904) : idxF s p = ix s p := by
  unfold idxF
  rw [digs_eq h.reverse h0 h1, dg_rev h]
theorem ix_in : ∀ {s : List Int} {p : Int}, Sides s → InIdx s (ix s p)
  | [], _, _ => .nil
  | m :: s, p, h => by
    have hm := h.head
    exact .cons (Int.emod_nonneg _ (by omega)) (Int.emod_lt_of_pos _ (by omega)) (ix_in h.tail)
theorem ix_pl {s x : List Int} (h : InIdx s x) (hs : Sides s) (a : Int) : ix s (a * prd s + pl s x 0) = x := by
  induction h generalizing a with
  | nil => rfl
  | @cons m k s x h0 h1 h ih =>
    have hl := pl_lt h
    have hp := prd_pos hs.tail
    simp only [ix, prd, pl]
    rw [pl_add h]
    have e : a * (m * prd s) + ((0 * m + k) * prd s + pl s x 0) = (a * m + k) * prd s + pl s x 0 := by
      simp [Int.add_mul, Int.mul_assoc, Int.add_assoc]
    rw [e, ih hs.tail]
    congr 1
    rw [Int.add_comm, Int.add_mul_ediv_right _ _ (by omega), Int.ediv_eq_zero_of_lt hl.1 hl.2, Int.zero_add, Int.mul_comm a m, Int.add_comm, Int.add_mul_emod_self_left]
    exact Int.emod_eq_of_lt h0 h1
theorem ix_pl0 {s x : List Int} (h : InIdx s x) (hs : Sides s) : ix s (pl s x 0) = x := by
  have := ix_pl h hs 0
  simpa using this
end Go.AM

namespace Go.AM
open Go Go.Proofs
set_option maxRecDepth 100000

def mk (s : List Int) (g : List Int → Int) : List Int := (List.range (sizeS s).toNat).map fun p => g (idxF s ((p : Nat) : Int))
end Go.AM

namespace Go.AM
open Go Go.Proofs
set_option maxRecDepth 100000

abbrev dTE (r : (List Int × List Int) × Int) : DV := .tup [dT r.1.1 r.1.2, dN r.2]
def bad (e : Int) : (List Int × List Int) × Int := (([], []), e)
end Go.AM

namespace Go.AM
open Go Go.Proofs
set_option maxRecDepth 100000
set_option maxHeartbeats 4000000

def fewT (s d : List Int) : Bool := decide (s.length ≤ 100) && decide (d.length ≤ 100)
theorem p_ref03_Few (s d : List Int) : PureC Try.prog fi_fullerref03_Few [dT s d] (dB (fewT s d)) := by
  refine pure_fullerref03_Few (by simp) fun G hP hn => ?_
  unfold a_fullerref03_Few
  repeat' (first     | refine T_then ?_ | refine then_ret ?_ | refine then_exit ?_ | refine then_goto ?_     | refine rnd_exit ?_ | refine rnd_ret ?_ | refine rnd_goto ?_     | refine noGo_normal ?_ | refine noGo_ret ?_ | refine noGo_exit ?_ | refine jmp_normal ?_ | refine jmp_ret ?_ | refine jmp_exit ?_ | refine jmp_goto ?_     | refine inB_normal ?_ | refine inB_ret ?_ | refine inB_goto ?_ | refine inB_exit ?_ | refine inB_exit_ne rfl ?_     | ((first | apply T_sr fw | apply T_reg fw); · ((try simp only [go_sem, seval, reduceIte, ↓reduceIte, hP]); (repeat ((first       | (refine ⟨true, false, rfl, fun h => absurd h (by decide), ?_⟩) | (refine ⟨false, false, rfl, fun h => absurd h (by decide), ?_⟩) | refine ⟨_, _, rfl, fun _ => rfl, ?_⟩); (try simp only [go_sem, seval, reduceIte, ↓reduceIte, hP]))); (first | done | exact rfl)))     | ((first | apply T_sdF fw (by rw [hP]; rfl) (by decide +kernel) | apply T_drF fw (by rw [hP]; rfl) (by decide +kernel)); · ((try simp only [TOps.flat, List.cons_append, List.nil_append]); (repeat ((first | refine Y_g0 ?_ | refine Y_g (by (try simp only [go_sem, seval, reduceIte, ↓reduceIte, Bool.not_eq_true, reduceCtorEq, beq_false, beq_true, hP]); (first | done | exact rfl)) ?_); (first | refine Y_skip ?_ | ((first | apply Y_q); (· ((try simp only [go_sem, seval, reduceIte, ↓reduceIte, Bool.not_eq_true, reduceCtorEq, beq_false, beq_true, hP]); (first | done | exact rfl))))))); apply RunF_nil; (try simp only [go_sem, seval, reduceIte, ↓reduceIte, Bool.not_eq_true, reduceCtorEq, beq_false, beq_true, hP]); (first | done | exact rfl)))     | ((first | apply T_sd fw (by rw [hP]; rfl) | apply T_dr fw (by rw [hP]; rfl)); · ((try simp only [go_sem, seval, reduceIte, ↓reduceIte, bne, beq_false, beq_true, Bool.not_eq_true, Bool.if_true_right, decide_not, reduceCtorEq, hP]); (first | done | exact rfl)))     | refine T_seq ?_ | refine T_block ?_ | refine T_scopeJ 0 rfl ?_ | refine T_scope ?_ | refine T_goto ?_ | refine T_ret ?_ | refine T_skip ?_ | refine T_exit ?_ | refine T_label ?_     | refine T_condT rfl ?_ | refine T_condF rfl ?_     | refine T_condD rfl (fun _ => ?_) (fun _ => ?_)     | refine T_cond rfl (fun _ => ?_) (fun _ => ?_))
  exact ends_ret rfl rfl rfl (by simp only [resD, fewT]; congr 3 <;> exact decide_eq_decide.2 (by omega))
def sameT (s d t e : List Int) : Bool := sameL s t && sameL d e
theorem p_ref03_Same (s d t e : List Int) : PureC Try.prog fi_fullerref03_Same [dT s d, dT t e] (dB (sameT s d t e)) := by
  refine pure_fullerref03_Same (by simp) fun G hP hn => ?_
  unfold a_fullerref03_Same
  repeat' (first     | refine T_then ?_ | refine then_ret ?_ | refine then_exit ?_ | refine then_goto ?_     | refine rnd_exit ?_ | refine rnd_ret ?_ | refine rnd_goto ?_     | refine noGo_normal ?_ | refine noGo_ret ?_ | refine noGo_exit ?_ | refine jmp_normal ?_ | refine jmp_ret ?_ | refine jmp_exit ?_ | refine jmp_goto ?_     | refine inB_normal ?_ | refine inB_ret ?_ | refine inB_goto ?_ | refine inB_exit ?_ | refine inB_exit_ne rfl ?_     | ((first | apply T_sr fw | apply T_reg fw); · ((try simp only [go_sem, seval, reduceIte, ↓reduceIte, hP]); (repeat ((first       | (refine ⟨true, false, rfl, fun h => absurd h (by decide), ?_⟩) | (refine ⟨false, false, rfl, fun h => absurd h (by decide), ?_⟩) | refine ⟨_, _, rfl, fun _ => rfl, ?_⟩       | (refine .inl ⟨_, _, ⟨_, _, _, _, _, _, rfl, rfl, rfl, p_ref02_Same _ _⟩, ?_⟩)       | (refine ⟨_, ?_, rfl, fun _ => ⟨_, ⟨_, _, _, _, _, _, rfl, rfl, rfl, p_ref02_Same _ _⟩, ?_⟩, ?_⟩; rotate_left; (· (simp only [go_sem, seval, reduceIte, ↓reduceIte, hP]; first | done | exact rfl)))); (try simp only [go_sem, seval, reduceIte, ↓reduceIte, hP]))); (first | done | exact rfl)))     | ((first | apply T_sdF fw (by rw [hP]; rfl) (by decide +kernel) | apply T_drF fw (by rw [hP]; rfl) (by decide +kernel)); · ((try simp only [TOps.flat, List.cons_append, List.nil_append]); (repeat ((first | refine Y_g0 ?_ | refine Y_g (by (try simp only [go_sem, seval, reduceIte, ↓reduceIte, Bool.not_eq_true, reduceCtorEq, beq_false, beq_true, hP]); (first | done | exact rfl)) ?_); (first | refine Y_skip ?_ | ((first | apply Y_q | (refine Y_call ⟨_, _, _, _, _, _, rfl, rfl, rfl, (by rw [hP]; exact p_ref02_Same _ _)⟩ ?_ ?_)); (· ((try simp only [go_sem, seval, reduceIte, ↓reduceIte, Bool.not_eq_true, reduceCtorEq, beq_false, beq_true, hP]); (first | done | exact rfl))))))); apply RunF_nil; (try simp only [go_sem, seval, reduceIte, ↓reduceIte, Bool.not_eq_true, reduceCtorEq, beq_false, beq_true, hP]); (first | done | exact rfl)))     | ((first | apply T_sd fw (by rw [hP]; rfl) | apply T_dr fw (by rw [hP]; rfl)); · ((try simp only [go_sem, seval, reduceIte, ↓reduceIte, bne, beq_false, beq_true, Bool.not_eq_true, Bool.if_true_right, decide_not, reduceCtorEq, hP]); (repeat ((first       | (refine ⟨_, ⟨_, _, _, _, _, _, rfl, rfl, rfl, p_ref02_Same _ _⟩, ?_⟩)); (try simp only [go_sem, seval, reduceIte, ↓reduceIte, bne, beq_false, beq_true, Bool.not_eq_true, Bool.if_true_right, decide_not, reduceCtorEq, hP]))); (first | done | exact rfl)))     | refine T_seq ?_ | refine T_block ?_ | refine T_scopeJ 0 rfl ?_ | refine T_scope ?_ | refine T_goto ?_ | refine T_ret ?_ | refine T_skip ?_ | refine T_exit ?_ | refine T_label ?_     | refine T_condT rfl ?_ | refine T_condF rfl ?_     | refine T_condD rfl (fun _ => ?_) (fun _ => ?_)     | refine T_cond rfl (fun _ => ?_) (fun _ => ?_))
  exact ends_ret rfl rfl rfl (by simp only [resD, sameT])
end Go.AM

namespace Go.AM
open Go Go.Proofs

theorem mk_len {s : List Int} (h : ShapeOk s) (g : List Int → Int) : ((mk s g).length : Int) = prd s := by
  have := prd_pos h.2.1
  simp only [mk, List.length_map, List.length_range, sizeS_ok h]
  omega
theorem mk_get {s : List Int} (h : ShapeOk s) (g : List Int → Int) {p : Nat} (hp : (p : Int) < prd s) : (mk s g)[p]? = some (g (ix s p)) := by
  have := h.2.2
  simp only [mk, sizeS_ok h, List.getElem?_map]
  rw [List.getElem?_range (by omega)]
  simp only [Option.map_some, Option.some.injEq]
  rw [idxF_eq h.2.1 (by omega) (by omega)]
theorem mk_check {s : List Int} (h : ShapeOk s) (g : List Int → Int) : checkT s (mk s g) = true := checkT_iff.2 ⟨h, mk_len h g⟩
theorem InIdx.append {s x t y : List Int} (h : InIdx s x) (k : InIdx t y) : InIdx (s ++ t) (x ++ y) := by
  induction h with
  | nil => exact k
  | cons h0 h1 _ ih => exact .cons h0 h1 ih
theorem InIdx.reverse {s x : List Int} (h : InIdx s x) : InIdx s.reverse x.reverse := by
  induction h with
  | nil => exact .nil
  | cons h0 h1 _ ih =>
    simp only [List.reverse_cons]
    exact ih.append (.cons h0 h1 .nil)
theorem ShapeOk.reverse {s : List Int} (h : ShapeOk s) : ShapeOk s.reverse := ⟨by simpa using h.1, h.2.1.reverse, by rw [prd_reverse]; exact h.2.2⟩
theorem sameL_refl (l : List Int) : sameL l l = true := by
  unfold sameL
  have : ∀ l : List Int, eqL l l = true := by
    intro l
    induction l with
    | nil => rfl
    | cons a l ih => simp [eqL, ih]
  simp [this]
theorem eqL_iff : ∀ {s t : List Int}, s.length = t.length → (eqL s t = true ↔ s = t)
  | [], [], _ => by simp [eqL]
  | a :: s, b :: t, h => by
    simp only [eqL]
    by_cases hab : a = b
    · subst hab; simp [eqL_iff (s := s) (t := t) (by simpa using h)]
    · simp [hab]
theorem sameL_iff {s t : List Int} : sameL s t = true ↔ s = t := by
  unfold sameL
  by_cases h : s.length = t.length
  · rw [if_neg (by simp [h]), eqL_iff h]
  · rw [if_pos (by simp; omega)]
    constructor
    · intro h'; cases h'
    · intro h'; exact absurd (by rw [h']) h
theorem sameT_refl (s d : List Int) : sameT s d s d = true := by unfold sameT; rw [sameL_refl, sameL_refl]; rfl
end Go.AM

namespace Go.AM
open Go Go.Proofs

theorem inIdx_iff : ∀ {s x : List Int}, InIdx s x ↔ s.length = x.length ∧ ∀ (i : Nat) (m k : Int), s[i]? = some m → x[i]? = some k → 0 ≤ k ∧ k < m
  | [], [] => ⟨fun _ => ⟨rfl, fun i m k h => by simp at h⟩, fun _ => .nil⟩
  | [], _ :: _ => ⟨fun h => (by cases h), fun h => by simp at h⟩
  | _ :: _, [] => ⟨fun h => (by cases h), fun h => by simp at h⟩
  | m :: s, k :: x => by
    constructor
    · intro h
      cases h with
      | cons h0 h1 h =>
        have := inIdx_iff.1 h
        refine ⟨by simp [this.1], fun i m' k' hm hk => ?_⟩
        cases i with
        | zero => simp at hm hk; subst hm hk; exact ⟨h0, h1⟩
        | succ i => exact this.2 i m' k' (by simpa using hm) (by simpa using hk)
    · rintro ⟨h1, h2⟩
      have := h2 0 m k rfl rfl
      exact .cons this.1 this.2 (inIdx_iff.2 ⟨by simpa using h1, fun i m' k' hm hk => h2 (i + 1) m' k' (by simpa using hm) (by simpa using hk)⟩)
theorem InIdx.get {s x : List Int} (h : InIdx s x) {n : Nat} {m : Int} (hm : s[n]? = some m) : ∃ k, x[n]? = some k ∧ 0 ≤ k ∧ k < m := by
  have h1 := inIdx_iff.1 h
  have hn := (List.getElem?_eq_some_iff.1 hm).1
  have hk : x[n]? = some (x[n]'(by omega)) := List.getElem?_eq_getElem (by omega)
  exact ⟨_, hk, h1.2 n _ _ hm hk⟩
theorem InIdx.set {s x : List Int} (h : InIdx s x) (n : Nat) {m k : Int} (h0 : 0 ≤ k) (h1 : k < m) : InIdx (s.set n m) (x.set n k) := by
  have h2 := inIdx_iff.1 h
  refine inIdx_iff.2 ⟨by simp [h2.1], fun i m' k' hm hk => ?_⟩
  by_cases hi : i = n
  · subst hi
    rw [List.getElem?_set] at hm hk
    simp at hm hk
    omega
  · rw [List.getElem?_set_ne (Ne.symm hi)] at hm hk
    exact h2.2 i m' k' hm hk
theorem Sides.set {s : List Int} (h : Sides s) (n : Nat) {m : Int} (h1 : 1 ≤ m ∧ m ≤ 16) : Sides (s.set n m) := by
  intro k hk
  rcases List.mem_or_eq_of_mem_set hk with hk | rfl
  · exact h k hk
  · exact h1
end Go.AM

namespace Go.AM
open Go Go.Proofs

structure Joins (s d t e : List Int) (n : Nat) (k m : Int) : Prop where
  one : checkT s d = true
  two : checkT t e = true
  hk : s[n]? = some k
  hm : t[n]? = some m
  like : t = s.set n m
  ok : ShapeOk (s.set n (k + m))
theorem Joins.kb {s d t e : List Int} {n : Nat} {k m : Int} (h : Joins s d t e n k m) : 1 ≤ k ∧ k ≤ 16 := (checkT_iff.1 h.one).1.2.1 k (List.mem_of_getElem? h.hk)
theorem Joins.lt {s d t e : List Int} {n : Nat} {k m : Int} (h : Joins s d t e n k m) : n < s.length := (List.getElem?_eq_some_iff.1 h.hk).1
end Go.AM

namespace Go.AM
open Go Go.Proofs

theorem c_sameT (s d : List Int) : PureC Try.prog fi_fullerref03_Same [dT s d, dT s d] (dB true) := by
  have := p_ref03_Same s d s d; rw [sameT_refl] at this; exact this
theorem c_same' (s : List Int) : PureC Try.prog fi_fullerref02_Same [dI s, dI s] (dB true) := by
  have := p_ref02_Same s s; rw [sameL_refl] at this; exact this
end Go.AM

namespace Go.AM
open Go Go.Proofs
set_option maxRecDepth 100000
set_option maxHeartbeats 4000000

def I64 (n : Int) : Prop := -9223372036854775808 ≤ n ∧ n < 9223372036854775808
instance (n : Int) : Decidable (I64 n) := by unfold I64; exact inferInstance
abbrev dU (n : Nat) : DV := .one (.int .u64 (n : Int))
theorem w64_eq (n : Int) : IntKind.i64.wrap n = if n % 18446744073709551616 ≥ 9223372036854775808 then n % 18446744073709551616 - 18446744073709551616 else n % 18446744073709551616 := by
  simp only [IntKind.wrap, IntKind.bits, IntKind.signed]
  simp
theorem u64_eq (n : Int) : IntKind.u64.wrap n = n % 18446744073709551616 := by
  simp only [IntKind.wrap, IntKind.bits, IntKind.signed]
  simp
theorem u64_in {n : Int} (h0 : 0 ≤ n) (h1 : n < 18446744073709551616) : IntKind.u64.wrap n = n := by
  rw [u64_eq]; omega
theorem u64_nat {n : Nat} (h1 : n < 18446744073709551616) : IntKind.u64.wrap (n : Int) = (n : Int) := u64_in (by omega) (by omega)
theorem u64_and {x : Nat} (hx : x < 18446744073709551616) : andZ .u64 (x : Int) 4294967295 = ((x % 4294967296 : Nat) : Int) := by
  unfold andZ
  have e1 : (BitVec.ofInt IntKind.u64.bits (x : Int) &&& BitVec.ofInt IntKind.u64.bits 4294967295).toNat = x % 4294967296 := by
    rw [BitVec.toNat_and]
    have h2 : (BitVec.ofInt IntKind.u64.bits (x : Int)).toNat = x := by
      show (BitVec.ofInt 64 (x : Int)).toNat = x
      rw [BitVec.toNat_ofInt]; omega
    have h3 : (BitVec.ofInt IntKind.u64.bits 4294967295).toNat = 2 ^ 32 - 1 := by decide
    rw [h2, h3, Nat.and_two_pow_sub_one_eq_mod]
  rw [e1, u64_nat (by omega)]
theorem u64_or {x y : Nat} (hx : x < 4294967296) (hy : y < 4294967296) : orZ .u64 ((x * 4294967296 : Nat) : Int) (y : Int) = ((x * 4294967296 + y : Nat) : Int) := by
  unfold orZ
  have e1 : (BitVec.ofInt IntKind.u64.bits ((x * 4294967296 : Nat) : Int) ||| BitVec.ofInt IntKind.u64.bits (y : Int)).toNat = x * 4294967296 + y := by
    rw [BitVec.toNat_or]
    have h2 : (BitVec.ofInt IntKind.u64.bits ((x * 4294967296 : Nat) : Int)).toNat = x * 4294967296 := by
      show (BitVec.ofInt 64 _).toNat = _
      rw [BitVec.toNat_ofInt]; omega
    have h3 : (BitVec.ofInt IntKind.u64.bits (y : Int)).toNat = y := by
      show (BitVec.ofInt 64 _).toNat = _
      rw [BitVec.toNat_ofInt]; omega
    rw [h2, h3]
    have := Nat.shiftLeft_add_eq_or_of_lt (i := 32) (b := y) (by omega) x
    rw [Nat.shiftLeft_eq] at this
    exact this.symm
  rw [e1, u64_nat (by omega)]
theorem shr32 (x : Nat) : shrZ .u64 (x : Int) 32 = ((x / 4294967296 : Nat) : Int) := by
  unfold shrZ
  have : (2 : Int) ^ (min (32 : Int).toNat IntKind.u64.bits) = 4294967296 := by decide
  rw [this, Int.fdiv_eq_ediv_of_nonneg _ (by decide)]
  omega
theorem shl32 (x : Nat) : shlZ .u64 (x : Int) 32 = ((x % 4294967296 * 4294967296 : Nat) : Int) := by
  unfold shlZ
  have : (2 : Int) ^ (min (32 : Int).toNat IntKind.u64.bits) = 4294967296 := by decide
  rw [this, u64_eq]
  omega
def rng (n : Int) : Int × Int := if I64 n then (n, 0) else (0, 10)
def fAdd (a b : Int) : Int × Int := rng (a + b)
def fSub (a b : Int) : Int × Int := rng (a - b)
def fMul (a b : Int) : Int × Int := rng (a * b / 4294967296)
theorem rng_in {n : Int} (h : I64 n) : rng n = (n, 0) := if_pos h
theorem rng_out {n : Int} (h : ¬ I64 n) : rng n = (0, 10) := if_neg h
theorem rng_range (n : Int) : I64 (rng n).1 := by
  by_cases h : I64 n
  · rw [rng_in h]; exact h
  · rw [rng_out h]; exact ⟨by decide, by decide⟩
theorem p_fix_told (n : Int) (b : Bool) : PureC Try.prog fi_fix_told [dN n, dB b] (dNE (if b then (n, 0) else (0, 10))) := by
  refine pure_fix_told (by simp) fun G hP hn => ?_
  unfold a_fix_told
  cases b
  · refine go trivial trivial ?_
    exact ends_ret rfl rfl rfl rfl
  · refine go trivial trivial ?_
    exact ends_ret rfl rfl rfl rfl
theorem p_fix_Add {a b : Int} (ha : I64 a) (hb : I64 b) : PureC Try.prog fi_fix_Add [dN a, dN b] (dNE (fAdd a b)) := by
  refine pure_fix_Add (by simp) fun G hP hn => ?_
  unfold a_fix_Add
  have hw := w64_eq (a + b)
  unfold I64 at ha hb
  have k1 : I64 (a + b) → fAdd a b = (IntKind.i64.wrap (a + b), 0) := fun h => by
    rw [wrap_in h.1 h.2]; exact rng_in h
  have k2 : ¬ I64 (a + b) → fAdd a b = (0, 10) := fun h => by
    exact rng_out h
  unfold I64 at k1 k2
  by_cases h1 : a < 0 <;> by_cases h2 : b < 0 <;> by_cases h3 : IntKind.i64.wrap (a + b) < 0
  all_goals
    refine go (aa h1 <| aa h2 h3) @p_fix_told ?_
    exact ends_ret rfl rfl rfl (by
      simp only [resD]
      first
        | (rw [k1 (by split at hw <;> omega)]; done)
        | (rw [k2 (by split at hw <;> omega)]; done)
        | (rw [k1 (by split at hw <;> omega)]; rfl)
        | (rw [k2 (by split at hw <;> omega)]; rfl))
theorem p_fix_size {a : Int} (ha : I64 a) : PureC Try.prog fi_fix_size [dN a] (dU a.natAbs) := by
  refine pure_fix_size (by simp) fun G hP hn => ?_
  unfold a_fix_size
  unfold I64 at ha
  by_cases h1 : a < 0
  · have w : IntKind.u64.wrap (0 - IntKind.u64.wrap a) = (a.natAbs : Int) := by rw [u64_eq a, u64_eq]; omega
    refine go (aa h1 @w) trivial ?_
    exact ends_ret rfl rfl rfl rfl
  · have w : IntKind.u64.wrap a = (a.natAbs : Int) := by rw [u64_eq a]; omega
    refine go (aa h1 @w) trivial ?_
    exact ends_ret rfl rfl rfl rfl
def apart (a b : Int) : Bool := decide (a ≠ 0) && (decide (b ≠ 0) && (decide (a < 0) != decide (b < 0)))
theorem p_fix_apart (a b : Int) : PureC Try.prog fi_fix_apart [dN a, dN b] (dB (apart a b)) := by
  refine pure_fix_apart (by simp) fun G hP hn => ?_
  unfold a_fix_apart
  by_cases h1 : a = 0
  · have h1' : (a != 0) = false := by simp [h1]
    refine go h1' trivial ?_
    exact ends_ret rfl rfl rfl (by simp [resD, apart, h1])
  · have h1' : (a != 0) = true := by simp [h1]
    by_cases h2 : b = 0
    · have h2' : (b != 0) = false := by simp [h2]
      refine go (aa h1' h2') trivial ?_
      exact ends_ret rfl rfl rfl (by simp [resD, apart, h2])
    · have h2' : (b != 0) = true := by simp [h2]
      by_cases h3 : a < 0 <;> by_cases h4 : b < 0
      all_goals
        refine go (aa h1' <| aa h2' <| aa h3 h4) trivial ?_
        exact ends_ret rfl rfl rfl (by simp [resD, apart, h1, h2, h3, h4])
end Go.AM

namespace Go.AM
open Go Go.Proofs
set_option maxRecDepth 100000
set_option maxHeartbeats 4000000

abbrev dUU (a b : Nat) : DV := .tup [dU a, dU b]
theorem p_bits_Mul64 {x y : Nat} (hx : x < 18446744073709551616) (hy : y < 18446744073709551616) : PureC Try.prog fi_math_bits_Mul64 [dU x, dU y] (dUU (x * y / 18446744073709551616) (x * y % 18446744073709551616)) := by
  refine pure_math_bits_Mul64 (by simp) fun G hP hn => ?_
  unfold a_math_bits_Mul64
  obtain ⟨l1, l2, l3, l4⟩ := Lib.mul64_hi x y hx hy
  have lq := Lib.half_mul_le (a := x / 4294967296) (b := y % 4294967296) (by omega) (by omega)
  have lr := Lib.half_mul_le (a := x % 4294967296) (b := y / 4294967296) (by omega) (by omega)
  have lp := Lib.half_mul_le (a := x / 4294967296) (b := y / 4294967296) (by omega) (by omega)
  have a1 := u64_and hx
  have a2 := u64_and hy
  have m1 : IntKind.u64.wrap (((x % 4294967296 : Nat) : Int) * ((y % 4294967296 : Nat) : Int)) = ((x % 4294967296 * (y % 4294967296) : Nat) : Int) := by rw [← Int.natCast_mul, u64_nat l1]
  have m2 : IntKind.u64.wrap (((x / 4294967296 : Nat) : Int) * ((y % 4294967296 : Nat) : Int)) = ((x / 4294967296 * (y % 4294967296) : Nat) : Int) := by rw [← Int.natCast_mul, u64_nat (by omega)]
  have m3 : IntKind.u64.wrap (((x % 4294967296 : Nat) : Int) * ((y / 4294967296 : Nat) : Int)) = ((x % 4294967296 * (y / 4294967296) : Nat) : Int) := by rw [← Int.natCast_mul, u64_nat (by omega)]
  have m4 : IntKind.u64.wrap (((x / 4294967296 : Nat) : Int) * ((y / 4294967296 : Nat) : Int)) = ((x / 4294967296 * (y / 4294967296) : Nat) : Int) := by rw [← Int.natCast_mul, u64_nat (by omega)]
  have m5 : IntKind.u64.wrap ((x : Int) * (y : Int)) = ((x * y % 18446744073709551616 : Nat) : Int) := by rw [← Int.natCast_mul, u64_eq]; omega
  have hh : x * y / 18446744073709551616 < 18446744073709551616 := by
    have : x * y ≤ 18446744073709551615 * 18446744073709551615 := Nat.mul_le_mul (by omega) (by omega)
    omega
  generalize x % 4294967296 * (y % 4294967296) = p0 at *
  generalize x / 4294967296 * (y % 4294967296) = p1 at *
  generalize x % 4294967296 * (y / 4294967296) = p2 at *
  generalize x / 4294967296 * (y / 4294967296) = p3 at *
  have s1 : IntKind.u64.wrap ((p1 : Int) + ((p0 / 4294967296 : Nat) : Int)) = ((p1 + p0 / 4294967296 : Nat) : Int) := by rw [← Int.natCast_add, u64_nat l2]
  have a3 := u64_and l2
  have s2 : IntKind.u64.wrap ((((p1 + p0 / 4294967296) % 4294967296 : Nat) : Int) + (p2 : Int)) = (((p1 + p0 / 4294967296) % 4294967296 + p2 : Nat) : Int) := by rw [← Int.natCast_add, u64_nat l3]
  have s3 : IntKind.u64.wrap ((p3 : Int) + (((p1 + p0 / 4294967296) / 4294967296 : Nat) : Int)) = ((p3 + (p1 + p0 / 4294967296) / 4294967296 : Nat) : Int) := by rw [← Int.natCast_add, u64_nat (by omega)]
  have s4 : IntKind.u64.wrap (((p3 + (p1 + p0 / 4294967296) / 4294967296 : Nat) : Int) + ((((p1 + p0 / 4294967296) % 4294967296 + p2) / 4294967296 : Nat) : Int)) = ((x * y / 18446744073709551616 : Nat) : Int) := by
    rw [← Int.natCast_add, l4, u64_nat hh]
  refine go (aa a1 <| aa a2 <| aa a3 <| aa @shr32 <| aa m1 <| aa m2 <| aa m3 <| aa m4 <| aa m5 <| aa s1 <| aa s2 <| aa s3 s4) trivial ?_
  exact ends_ret rfl rfl rfl rfl
def sgn (v : Nat) (rest below : Bool) : Int := if below then -((v : Int) + (if rest then 1 else 0)) else v
theorem m_signed_1 (t h l : Nat) (hl : l < 18446744073709551616) (hh : h < 18446744073709551615) : MutC Try.prog fi_fix_wide_signed_1 [.one (.ptr t 0 1 0)] [(t, .arr true 1 [[.int .u64 (h : Int)], [.int .u64 (l : Int)]])] (.tup [])
    [(t, .arr true 1 [[.int .u64 (((h * 18446744073709551616 + l + 1) / 18446744073709551616 : Nat) : Int)], [.int .u64 (((h * 18446744073709551616 + l + 1) % 18446744073709551616 : Nat) : Int)]])] [] := by
  refine mut_fix_wide_signed_1 (by simp) fun G ex hP hn hfr => ?_
  unfold a_fix_wide_signed_1
  have e1 : (l + 1) % 18446744073709551616 = (h * 18446744073709551616 + l + 1) % 18446744073709551616 := by omega
  have e2 : IntKind.u64.wrap ((h : Int) + (((l + 1) / 18446744073709551616 : Nat) : Int)) = (((h * 18446744073709551616 + l + 1) / 18446744073709551616 : Nat) : Int) := by rw [u64_eq]; omega
  repeat' (first | apply T_then | apply then_ret | apply then_exit | apply then_goto | apply rnd_exit | apply rnd_ret | apply rnd_goto | apply noGo_normal | apply noGo_ret | apply noGo_exit | apply jmp_normal | apply jmp_ret | apply jmp_exit | apply jmp_goto | apply inB_normal | apply inB_ret | apply inB_goto | apply inB_exit | refine inB_exit_ne rfl ?_ | ((first | apply T_srK fw | apply T_regK fw); · ((try simp only [TOps.flat, List.cons_append, List.nil_append]); repeat (first | apply X_g0 | apply X_g | apply S_keep | apply X_skip | apply X_skipN | apply X_q | apply X_st | apply X_n | apply X_s | apply SKs0 | apply SKs2 | apply SKs1 | refine ⟨⟨rfl, rfl⟩, ?_⟩ | refine ⟨⟨rfl, ?_⟩, ?_⟩ | refine ⟨?_, ?_⟩ | (· (try simp only [go_sem, seval, reduceIte, ↓reduceIte, Bool.not_eq_true, reduceCtorEq, beq_false, beq_true, hn, hP, e1, e2, Int.toNat_one, Int.toNat_zero, Nat.reducePow]); first | done | rfl)))) | apply T_seq | apply T_block | refine T_scopeJ 0 rfl ?_ | apply T_scope | apply T_goto | apply T_ret | apply T_skip | apply T_exit | apply T_label | refine T_condT rfl ?_ | refine T_condF rfl ?_ | refine T_condD rfl (fun _ => ?_) (fun _ => ?_) | refine T_cond rfl (fun _ => ?_) (fun _ => ?_))
  exact endsM_normal rfl rfl rfl (by simp [lo]) rfl
end Go.AM

namespace Go.AM
open Go Go.Proofs
set_option maxRecDepth 100000
set_option maxHeartbeats 4000000

theorem neg_u64 {l : Nat} (h : l ≤ 9223372036854775808) : IntKind.i64.wrap (IntKind.u64.wrap (0 - (l : Int))) = -(l : Int) := by
  rw [u64_eq, w64_eq]; split <;> omega
theorem p_fix_signed {h l : Nat} (hl : l < 18446744073709551616) (hh : h < 18446744073709551615) (rest below : Bool) :
    PureC Try.prog fi_fix_wide_signed [.agg [.int .u64 (h : Int), .int .u64 (l : Int)], dB rest, dB below] (dNE (rng (sgn (h * 18446744073709551616 + l) rest below))) := by
  refine pure_fix_wide_signed (by simp) fun G hP hn => ?_
  unfold a_fix_wide_signed
  have w8 : IntKind.u64.wrap 9223372036854775808 = 9223372036854775808 := by decide
  cases below
  · by_cases h1 : (h : Int) > 0
    · refine go h1 trivial ?_
      exact ends_ret rfl rfl rfl (by rw [rng_out (by unfold I64 sgn; simp; omega)]; rfl)
    · by_cases h2 : (l : Int) > 9223372036854775807
      · refine go (aa h1 h2) trivial ?_
        exact ends_ret rfl rfl rfl (by rw [rng_out (by unfold I64 sgn; simp; omega)]; rfl)
      · have w1 : IntKind.i64.wrap (l : Int) = (l : Int) := wrap_in (by omega) (by omega)
        refine go (aa h1 <| aa h2 w1) trivial ?_
        have e : sgn (h * 18446744073709551616 + l) rest false = (l : Int) := by unfold sgn; simp; omega
        exact ends_ret rfl rfl rfl (by rw [e, rng_in (by unfold I64; omega)]; rfl)
  · cases rest
    · by_cases h1 : (h : Int) > 0
      · refine go (aa h1 w8) trivial ?_
        exact ends_ret rfl rfl rfl (by rw [rng_out (by unfold I64 sgn; simp; omega)]; rfl)
      · by_cases h2 : (l : Int) > 9223372036854775808
        · refine go (aa h1 <| aa h2 w8) trivial ?_
          exact ends_ret rfl rfl rfl (by rw [rng_out (by unfold I64 sgn; simp; omega)]; rfl)
        · have w1 := neg_u64 (l := l) (by omega)
          refine go (aa h1 <| aa h2 <| aa w1 w8) trivial ?_
          have e : sgn (h * 18446744073709551616 + l) false true = -(l : Int) := by unfold sgn; simp; omega
          exact ends_ret rfl rfl rfl (by rw [e, rng_in (by unfold I64; omega)]; rfl)
    · have km := m_signed_1 3 h l hl hh
      have hv : (h * 18446744073709551616 + l + 1) / 18446744073709551616 * 18446744073709551616 + (h * 18446744073709551616 + l + 1) % 18446744073709551616 = h * 18446744073709551616 + l + 1 := by omega
      generalize (h * 18446744073709551616 + l + 1) / 18446744073709551616 = h' at km hv
      have hlt : (h * 18446744073709551616 + l + 1) % 18446744073709551616 < 18446744073709551616 := by omega
      generalize (h * 18446744073709551616 + l + 1) % 18446744073709551616 = l' at km hv hlt
      by_cases h1 : (h' : Int) > 0
      · refine go (aa h1 w8) km ?_
        exact ends_ret rfl rfl rfl (by rw [rng_out (by unfold I64 sgn; simp; omega)]; rfl)
      · by_cases h2 : (l' : Int) > 9223372036854775808
        · refine go (aa h1 <| aa h2 w8) km ?_
          exact ends_ret rfl rfl rfl (by rw [rng_out (by unfold I64 sgn; simp; omega)]; rfl)
        · have w1 := neg_u64 (l := l') (by omega)
          refine go (aa h1 <| aa h2 <| aa w1 w8) km ?_
          have e : sgn (h * 18446744073709551616 + l) true true = -(l' : Int) := by unfold sgn; simp; omega
          exact ends_ret rfl rfl rfl (by rw [e, rng_in (by unfold I64; omega)]; rfl)
end Go.AM

namespace Go.AM
open Go Go.Proofs
set_option maxRecDepth 100000
set_option maxHeartbeats 4000000

theorem apart_mul {a b : Int} : (apart a b = true → a * b = -((a.natAbs * b.natAbs : Nat) : Int)) ∧ (apart a b = false → a * b = ((a.natAbs * b.natAbs : Nat) : Int)) := by
  unfold apart
  have h := Int.natAbs_mul a b
  rcases Int.lt_trichotomy a 0 with ha | rfl | ha
  · rcases Int.lt_trichotomy b 0 with hb | rfl | hb
    · have := Int.mul_pos_of_neg_of_neg ha hb
      exact ⟨fun h => by simp [ha, hb] at h, fun _ => by rw [← h]; omega⟩
    · simp
    · have := Int.mul_neg_of_neg_of_pos ha hb
      exact ⟨fun _ => by rw [← h]; omega, fun h => by simp [ha] at h; omega⟩
  · simp
  · rcases Int.lt_trichotomy b 0 with hb | rfl | hb
    · have := Int.mul_neg_of_pos_of_neg ha hb
      exact ⟨fun _ => by rw [← h]; omega, fun h => by simp [hb] at h; omega⟩
    · simp
    · have := Int.mul_pos ha hb
      exact ⟨fun h => by simp at h; omega, fun _ => by rw [← h]; omega⟩
theorem mul_sgn (a b : Int) : sgn (a.natAbs * b.natAbs / 4294967296) (decide (a.natAbs * b.natAbs % 4294967296 ≠ 0)) (apart a b) = a * b / 4294967296 := by
  have h := apart_mul (a := a) (b := b)
  generalize a.natAbs * b.natAbs = m at *
  cases hp : apart a b
  · rw [h.2 hp]; unfold sgn; simp
  · rw [h.1 hp]; unfold sgn
    by_cases h0 : m % 4294967296 = 0
    · simp [h0]; omega
    · simp [h0]; omega
theorem abs_lt {a : Int} (ha : I64 a) : a.natAbs ≤ 9223372036854775808 := by unfold I64 at ha; omega
theorem p_fix_Mul {a b : Int} (ha : I64 a) (hb : I64 b) : PureC Try.prog fi_fix_Mul [dN a, dN b] (dNE (fMul a b)) := by
  refine pure_fix_Mul (by simp) fun G hP hn => ?_
  unfold a_fix_Mul
  have la := abs_lt ha
  have lb := abs_lt hb
  have km := p_bits_Mul64 (x := a.natAbs) (y := b.natAbs) (by omega) (by omega)
  have hm : a.natAbs * b.natAbs ≤ 9223372036854775808 * 9223372036854775808 := Nat.mul_le_mul la lb
  have e1 : ∀ m : Nat, m ≤ 9223372036854775808 * 9223372036854775808 → (m / 18446744073709551616) / 4294967296 * 18446744073709551616 + ((m / 18446744073709551616) % 4294967296 * 4294967296 + m % 18446744073709551616 / 4294967296) = m / 4294967296 := by
    intro m hm; omega
  have e1 := e1 _ hm
  have hs := mul_sgn a b
  have e2 : (decide (a.natAbs * b.natAbs % 4294967296 ≠ 0)) = (((a.natAbs * b.natAbs % 18446744073709551616 % 4294967296 : Nat) : Int) != 0) := by
    rw [Bool.eq_iff_iff]; simp; omega
  have ks : PureC Try.prog fi_fix_wide_signed [.agg [.int .u64 ((a.natAbs * b.natAbs / 18446744073709551616 / 4294967296 : Nat) : Int), .int .u64 ((a.natAbs * b.natAbs / 18446744073709551616 % 4294967296 * 4294967296 + a.natAbs * b.natAbs % 18446744073709551616 / 4294967296 : Nat) : Int)],
      dB (((a.natAbs * b.natAbs % 18446744073709551616 % 4294967296 : Nat) : Int) != 0), dB (apart a b)] (dNE (fMul a b)) := by
    have := p_fix_signed (h := a.natAbs * b.natAbs / 18446744073709551616 / 4294967296) (l := a.natAbs * b.natAbs / 18446744073709551616 % 4294967296 * 4294967296 + a.natAbs * b.natAbs % 18446744073709551616 / 4294967296) (by omega) (by omega)
      (((a.natAbs * b.natAbs % 18446744073709551616 % 4294967296 : Nat) : Int) != 0) (apart a b)
    rw [e1, ← e2, hs] at this
    rw [← e2]
    exact this
  have a1 := u64_and (x := a.natAbs * b.natAbs % 18446744073709551616) (by omega)
  have o1 := u64_or (x := a.natAbs * b.natAbs / 18446744073709551616 % 4294967296) (y := a.natAbs * b.natAbs % 18446744073709551616 / 4294967296) (by omega) (by omega)
  generalize a.natAbs * b.natAbs = m at *
  refine go (aa @shr32 <| aa @shl32 <| aa a1 o1) (aa (p_fix_size ha) <| aa (p_fix_size hb) <| aa km <| aa @p_fix_apart ks) ?_
  exact ends_ret rfl rfl rfl rfl
end Go.AM

