import Derived.Test.YtphnlpfkenannaaGreatMv30
import Derived.Test.YtphnlpfkenannaaGreatProg
import Derived.KernelRfl
set_option linter.unusedVariables false
set_option linter.unusedSimpArgs false
namespace Go.AM
open Go Go.Proofs
set_option maxRecDepth 100000
abbrev fi_fullerlaw13_EvalAgain : Nat := 4
end Go.AM

namespace Go.AM
open Go Go.Proofs
set_option maxRecDepth 100000
def a_fullerlaw13_EvalAgain : ACode := (sr [0,2,4] [4] (nn 4 (.box 2 (.t 1))<|qq 6 (.mov (.c (.one (.p (.bool false)))))<|.nil)<|
(sr [0,2,4,7] [4] (cl 18 15 []<|mv 7 18<|.nil)<|
(ib [0,2,4,7,37] [4] (mv 19 0<|cl 20 16 [19]<|qq 21 (.un .not (.t 20))<|mv 22 21<|.sc 27 22 false 26 none (.op (some 23) (some (22, false)) (.q (.load 2 true (.t 4)))<|.op (some 24) (some (22, false)) (.q (.mov (.t 2)))<|.op (some 25) (some (22, false)) (.call (.c (.one (.p (.fn fi_fullerlaw13_few [] [])))) [(.t 23),(.t 24)])<|.op (some 26) (some (22, false)) (.q (.un .not (.t 25)))<|.nil)<|mv 28 27<|.sc 32 28 false 31 none (.op (some 29) (some (28, false)) (.q (.mov (.t 0)))<|.op (some 30) (some (28, false)) (.q (.len (.t 29)))<|.op (some 31) (some (28, false)) (.q (.bin .gtr (.t 30) (ic 12)))<|.nil)<|mv 33 32<|.sc 37 33 false 36 none (.op (some 34) (some (33, false)) (.q (.mov (.t 0)))<|.op (some 35) (some (33, false)) (.call (.c (.one (.p (.fn fi_graph_Check [] [])))) [(.t 34)])<|.op (some 36) (some (33, false)) (.q (.un .not (.t 35)))<|.nil)<|.nil) 37 (sr [6] [4] (mv 38 7<|mv 6 38<|.nil)<|
.ret)<|
(sr [0,2,4,7,8] [4,39,41] (nn 39 (.lit 3 0 [(.int .i64 0),(.sl []),(.sl [])] [])<|mv 40 0<|sd 41 (.app 3 56 (.t 39) (.t 40))<|mv 8 41<|.nil)<|
(.seq (sr [0,2,4,7,8,9] [4,39,41] (mc 9 0<|.nil)<|
(.block 0 (.loop (.seq (sr [0,2,4,7,8,9,45] [4,39,41] (mv 42 9<|mv 43 0<|le 44 43<|bt 45 .lss 42 44<|.nil)<|
(cd 45 .skip (.exit 0)))<|
(.seq (.block 1 (.seq (.region (some [[], [0], [], [], [], [0, 1, 2, 3, 4], [0, 1, 2, 3, 4, 5], [0, 1, 2, 3, 4], [0, 1, 2, 3, 4], [0, 1, 2, 3, 4], [], [0, 1, 2, 3, 4, 5, 6, 7, 8, 9, 10], []]) (mv 48 0<|mv 49 9<|ia 50 3 48 49<|fa 51 0 50<|ld 52 1 false 51<|mv 53 0<|mv 54 9<|ia 55 3 53 54<|fa 56 2 55<|ld 57 1 false 56<|qq 58 (.build [(.p (.int .i64 0)),.nils,.nils] [(0, 1, (.t 52)),(2, 1, (.t 57))])<|al 10 [(.p (.int .i64 0)),.nils,.nils]<|st 3 10 58<|.nil) [0,2,4,7,8,9,10] [4,10,39,41])<|
(.seq (sr [0,2,4,7,8,9,10,11] [4,10,39,41] (mc 11 0<|.nil)<|
(.block 2 (.loop (.seq (sr [0,2,4,7,8,9,10,11,66] [4,10,39,41] (mv 59 11<|mv 60 0<|mv 61 9<|ia 62 3 60 61<|fa 63 1 62<|ld 64 1 false 63<|le 65 64<|bt 66 .lss 59 65<|.nil)<|
(cd 66 .skip (.exit 2)))<|
(.seq (.block 3 (.region (some [[], [], [0, 1], [0, 1, 2], [0, 1], [0, 1], [0, 1], [0, 1, 2, 3, 4, 5, 6], [0, 1], [0, 1], [0, 1, 2, 3, 4, 5, 6, 7, 8, 9], [0, 1, 2, 3, 4, 5, 6, 7, 8, 9], [0, 1], [0, 1], [], [], []]) (fa 69 1 10<|ld 70 1 false 69<|mv 71 0<|mv 72 9<|ia 73 3 71 72<|fa 74 1 73<|ld 75 1 false 74<|mv 76 11<|ia 77 1 75 76<|ld 78 1 false 77<|mv 79 0<|le 80 79<|bt 81 .add 78 80<|nn 82 (.lit 1 1 [(.int .i64 0)] [(0, (.t 81))])<|sd 83 (.app 1 8 (.t 70) (.t 82))<|fa 84 1 10<|st 1 84 83<|.nil) [0,2,4,7,8,9,10,11] [4,10,39,41,82,83]))<|
(rg [0,2,4,7,8,9,10,11] [4,10,39,41,82,83]<|mv 67 11<|bc 68 .add 67 1<|mv 11 68<|.nil))))))<|
(rg [0,2,4,7,8,9] [4,10,39,41,82,83,87,88]<|mv 85 8<|ld 86 3 true 10<|nn 87 (.lit 3 1 [(.int .i64 0),(.sl []),(.sl [])] [(0, (.t 86))])<|sd 88 (.app 3 56 (.t 85) (.t 87))<|mv 8 88<|.nil))))<|
(rg [0,2,4,7,8,9] [4,10,39,41,82,83,87,88]<|mv 46 9<|bc 47 .add 46 1<|mv 9 47<|.nil))))))<|
(sr [0,2,4,7,8,12,13,14] [4,10,39,41,82,83,87,88] (mv 90 0<|ld 91 2 true 4<|mv 92 2<|cl 93 18 [90,91,92]<|mv 89 93<|xt 94 89 0<|xt 95 89 1<|xt 96 89 2<|mv 12 94<|mv 13 95<|mv 14 96<|.nil)<|
(sr [0,7,12,13,14,15,16,17] [4,10,39,41,82,83,87,88] (mv 98 8<|ld 99 2 true 4<|mv 100 2<|cl 101 18 [98,99,100]<|mv 97 101<|xt 102 97 0<|xt 103 97 1<|xt 104 97 2<|mv 15 102<|mv 16 103<|mv 17 104<|.nil)<|
(ib [0,7,12,13,14,15,16,17,106] [4,10,39,41,82,83,87,88] (mv 105 14<|bc 106 .neq 105 0<|.nil) 106 (sr [6] [4,10,39,41,82,83,87,88] (mv 107 7<|mv 108 107<|.sc 112 108 true 111 none (.op (some 109) (some (108, true)) (.q (.mov (.t 17)))<|.op (some 110) (some (108, true)) (.q (.mov (.t 14)))<|.op (some 111) (some (108, true)) (.q (.bin .eql (.t 109) (.t 110)))<|.nil)<|mv 113 112<|.sc 117 113 true 116 none (.op (some 114) (some (113, true)) (.q (.mov (.t 16)))<|.op (some 115) (some (113, true)) (.q (.mov (.t 13)))<|.op (some 116) (some (113, true)) (.q (.bin .eql (.t 114) (.t 115)))<|.nil)<|mv 6 117<|.nil)<|
.ret)<|
(sr [6] [4,10,39,41,82,83,87,88] (mv 118 7<|mv 119 118<|.sc 122 119 true 121 none (.op (some 120) (some (119, true)) (.q (.mov (.t 17)))<|.op (some 121) (some (119, true)) (.q (.bin .eql (.t 120) (ic 0)))<|.nil)<|mv 123 122<|.sc 130 123 true 129 none (.op (some 124) (some (123, true)) (.q (.mov (.t 15)))<|.op (some 125) (some (123, true)) (.q (.len (.t 124)))<|.op (some 126) (some (123, true)) (.q (.mov (.t 0)))<|.op (some 127) (some (123, true)) (.q (.len (.t 126)))<|.op (some 128) (some (123, true)) (.q (.bin .mul (ic 2) (.t 127)))<|.op (some 129) (some (123, true)) (.q (.bin .eql (.t 125) (.t 128)))<|.nil)<|mv 131 130<|.sc 137 131 true 136 none (.op (some 132) (some (131, true)) (.q (.mov (.t 12)))<|.op (some 133) (some (131, true)) (.q (.len (.t 132)))<|.op (some 134) (some (131, true)) (.q (.mov (.t 0)))<|.op (some 135) (some (131, true)) (.q (.len (.t 134)))<|.op (some 136) (some (131, true)) (.q (.bin .eql (.t 133) (.t 135)))<|.nil)<|mv 138 137<|.sc 145 138 true 144 none (.op (some 139) (some (138, true)) (.q (.mov (.t 15)))<|.op (some 140) (some (138, true)) (.q (.mov (.t 0)))<|.op (some 141) (some (138, true)) (.q (.len (.t 140)))<|.op (some 142) (some (138, true)) (.q (.slc 2 (.t 139) none (some (.t 141)) none))<|.op (some 143) (some (138, true)) (.q (.mov (.t 12)))<|.op (some 144) (some (138, true)) (.call (.c (.one (.p (.fn fi_fullerref09_Same [] [])))) [(.t 142),(.t 143)])<|.nil)<|mv 146 145<|.sc 153 146 true 152 none (.op (some 147) (some (146, true)) (.q (.mov (.t 15)))<|.op (some 148) (some (146, true)) (.q (.mov (.t 0)))<|.op (some 149) (some (146, true)) (.q (.len (.t 148)))<|.op (some 150) (some (146, true)) (.q (.slc 2 (.t 147) (some (.t 149)) none none))<|.op (some 151) (some (146, true)) (.q (.mov (.t 12)))<|.op (some 152) (some (146, true)) (.call (.c (.one (.p (.fn fi_fullerref09_Same [] [])))) [(.t 150),(.t 151)])<|.nil)<|mv 6 153<|.nil)<|
.ret)))))))))
theorem pure_fullerlaw13_EvalAgain : PureT Tryz.prog fi_fullerlaw13_EvalAgain 154 a_fullerlaw13_EvalAgain [.tmp 6] := pureT_of Tryz.call4 Tryz.func4
end Go.AM

namespace Go.AM
open Go Go.Proofs

def mvN (N : Nat) (n : Nd) : Nd := ⟨n.op, n.args.map (· + (N : Int)), n.nums⟩
theorem shapesL_again (A : List (List Int)) : ∀ (l : List Nd) (out : List (List Int)), (∀ j (hj : j < l.length), ∀ a ∈ l[j].args, 0 ≤ a ∧ a < ((out.length + j : Nat) : Int)) → (shapesL l out).2.2 = 0 → shapesL (l.map (mvN A.length)) (A ++ out) = (A ++ (shapesL l out).1, -1, 0)
  | [], out, _, _ => rfl
  | n :: l, out, ha, h => by
    simp only [shapesL] at h ⊢
    by_cases h1 : (inferF n.op n.nums (n.args.map (gs out))).2 = 0
    rotate_left
    · rw [if_neg h1] at h; exact absurd h h1
    rw [if_pos h1] at h ⊢
    simp only [List.map_cons, shapesL]
    have e : ((mvN A.length n).args.map (gs (A ++ out))) = n.args.map (gs out) := by
      simp only [mvN, List.map_map]
      refine List.map_congr_left fun a hm => ?_
      have := ha 0 (by simp) a (by simpa using hm)
      simp only [Function.comp, gs]
      rw [List.getElem?_append_right (by omega)]
      congr 2; omega
    rw [e]
    show (if (inferF n.op n.nums (n.args.map (gs out))).2 = 0 then shapesL (l.map (mvN A.length)) (A ++ out ++ [(inferF n.op n.nums (n.args.map (gs out))).1]) else _) = _
    rw [if_pos h1, List.append_assoc]
    exact shapesL_again A l _ (fun j hj a hm => by
      have := ha (j + 1) (by simp; omega) a (by simpa using hm)
      simp only [List.length_append, List.length_cons, List.length_nil]
      omega) h
theorem evLst_again (input : Tn) (ps : List Tn) (A : List Tn) : ∀ (l : List Nd) (out : List Tn), (∀ j (hj : j < l.length), ∀ a ∈ l[j].args, 0 ≤ a ∧ a < ((out.length + j : Nat) : Int)) → (evLst input ps l out).2.2 = 0 → evLst input ps (l.map (mvN A.length)) (A ++ out) = (A ++ (evLst input ps l out).1, -1, 0)
  | [], out, _, _ => rfl
  | n :: l, out, ha, h => by
    simp only [evLst] at h ⊢
    by_cases h1 : (nodeF n (n.args.map fun a => gT out a.toNat) input ps).2 = 0
    rotate_left
    · rw [if_neg h1] at h; exact absurd h h1
    rw [if_pos h1] at h ⊢
    simp only [List.map_cons, evLst]
    have e : ((mvN A.length n).args.map fun a => gT (A ++ out) a.toNat) = n.args.map fun a => gT out a.toNat := by
      simp only [mvN, List.map_map]
      refine List.map_congr_left fun a hm => ?_
      have := ha 0 (by simp) a (by simpa using hm)
      simp only [Function.comp, gT]
      rw [List.getElem?_append_right (by omega)]
      congr 2; omega
    rw [e]
    have e2 : nodeF (mvN A.length n) (n.args.map fun a => gT out a.toNat) input ps = nodeF n (n.args.map fun a => gT out a.toNat) input ps := rfl
    rw [e2, if_pos h1, List.append_assoc]
    exact evLst_again input ps A l _ (fun j hj a hm => by
      have := ha (j + 1) (by simp; omega) a (by simpa using hm)
      simp only [List.length_append, List.length_cons, List.length_nil]
      omega) h
theorem lkI_put {α : Type} (n k : Int) (v : α) : ∀ (m : List (Int × α)), lkI k (putI n v m) = if k = n then some v else lkI k m
  | [] => by
    simp only [putI, lkI]
    by_cases h : k = n
    · rw [if_pos h.symm, if_pos h]
    · rw [if_neg (fun e => h e.symm), if_neg h]
  | p :: m => by
    simp only [putI]
    by_cases h1 : p.1 = n
    · rw [if_pos h1]
      simp only [lkI]
      by_cases h : k = n
      · rw [if_pos h.symm, if_pos h]
      · rw [if_neg (fun e => h e.symm), if_neg h, if_neg (fun e => h (e.symm.trans h1))]
    · rw [if_neg h1]
      simp only [lkI]
      by_cases h2 : p.1 = k
      · rw [if_pos h2, if_neg (fun e => h1 (h2.trans e)), if_pos h2]
      · rw [if_neg h2, if_neg h2]; exact lkI_put n k v m
theorem put_same {α : Type} {n : Int} {v : α} : ∀ {m : List (Int × α)}, lkI n m = some v → putI n v m = m
  | [], h => by simp [lkI] at h
  | p :: m, h => by
    simp only [lkI] at h
    simp only [putI]
    by_cases h1 : p.1 = n
    · rw [if_pos h1] at h ⊢; cases h; rw [← h1]
    · rw [if_neg h1] at h ⊢; rw [put_same h]
theorem stepG_inv {i : Nat} {m m' : Shs} {n : Nd} (h : stepG i m n = some m') : (∃ k, kindF n.op = some k ∧ (n.args.length : Int) = k.1 ∧ wellF n.nums k.2 = true) ∧ ((nameF n).2 = true → lkI (nameF n).1 m' = some n.nums) ∧ ∀ k v, lkI k m = some v → lkI k m' = some v := by
  unfold stepG at h
  cases hk : kindF n.op with
  | none => rw [hk] at h; cases h
  | some k =>
    rw [hk] at h
    simp only at h
    split at h
    · rename_i hc
      refine ⟨⟨k, rfl, hc.1, hc.2.1⟩, ?_⟩
      split at h
      · split at h
        · rename_i s hs
          split at h
          · rename_i hsm
            cases h
            have e := sameL_iff.1 hsm
            subst e
            refine ⟨fun _ => by rw [lkI_put, if_pos rfl], fun k v hv => ?_⟩
            rw [lkI_put]; split
            · rename_i e; subst e; rw [hs] at hv; exact hv
            · exact hv
          · cases h
        · rename_i hs
          cases h
          refine ⟨fun _ => by rw [lkI_put, if_pos rfl], fun k v hv => ?_⟩
          rw [lkI_put]; split
          · rename_i e; subst e; rw [hs] at hv; cases hv
          · exact hv
      · rename_i hnm
        cases h
        exact ⟨fun h => absurd h hnm, fun _ _ h => h⟩
    · cases h
theorem walkG_inv : ∀ (l : List Nd) (i : Nat) (m m' : Shs), walkG i m l = some m' → (∀ n ∈ l, (nameF n).2 = true → lkI (nameF n).1 m' = some n.nums) ∧ ∀ k v, lkI k m = some v → lkI k m' = some v
  | [], i, m, m', h => by cases h; exact ⟨fun n hn => absurd hn List.not_mem_nil, fun _ _ h => h⟩
  | n :: l, i, m, m', h => by
    simp only [walkG] at h
    cases hs : stepG i m n with
    | none => rw [hs] at h; cases h
    | some m2 =>
      rw [hs] at h
      simp only at h
      obtain ⟨q1, q2⟩ := walkG_inv l _ _ _ h
      obtain ⟨_, q3, q4⟩ := stepG_inv hs
      refine ⟨fun x hx hn => ?_, fun k v hv => q2 k v (q4 k v hv)⟩
      rcases List.mem_cons.1 hx with rfl | hx
      · exact q2 _ _ (q3 hn)
      · exact q1 x hx hn
theorem walkG_again {N : Nat} {M : Shs} : ∀ (l : List Nd) (i : Nat), (∀ n ∈ l, (∃ k, kindF n.op = some k ∧ (n.args.length : Int) = k.1 ∧ wellF n.nums k.2 = true) ∧ ((nameF n).2 = true → lkI (nameF n).1 M = some n.nums)) → (∀ j (hj : j < l.length), ∀ a ∈ l[j].args, 0 ≤ a ∧ a < ((i + j : Nat) : Int)) →
    walkG (N + i) M (l.map (mvN N)) = some M
  | [], i, _, _ => rfl
  | n :: l, i, h, ha => by
    simp only [List.map_cons, walkG]
    obtain ⟨⟨k, hk, hl, hw⟩, hn⟩ := h n List.mem_cons_self
    have e : stepG (N + i) M (mvN N n) = some M := by
      unfold stepG
      show (match kindF n.op with | none => none | some k => _) = some M
      rw [hk]
      simp only
      rw [if_pos ⟨by simpa [mvN] using hl, hw, by
        rw [List.all_eq_true]
        intro a hm
        simp only [mvN, List.mem_map] at hm
        obtain ⟨b, hb, rfl⟩ := hm
        have := ha 0 (by simp) b (by simpa using hb)
        simp only [decide_eq_true_eq]; omega⟩]
      have en : nameF (mvN N n) = nameF n := rfl
      rw [en]
      split
      · rename_i h1
        rw [hn h1]
        simp only
        show (if sameL n.nums n.nums = true then some (putI (nameF n).1 n.nums M) else none) = some M
        rw [if_pos (sameL_refl _), put_same (hn h1)]
      · rfl
    rw [e]
    simp only
    exact walkG_again l (i + 1) (fun x hx => h x (List.mem_cons_of_mem _ hx)) (fun j hj a hm => by
      have := ha (j + 1) (by simp; omega) a (by simpa using hm)
      omega)
theorem checkG_again {l : List Nd} (h : checkG l = true) (h12 : l.length ≤ 12) : checkG (l ++ l.map (mvN l.length)) = true := by
  have hargs := fun (j : Nat) (hj : j < l.length) => checkG_args h hj
  unfold checkG at h ⊢
  simp only [Bool.and_eq_true, decide_eq_true_eq] at h ⊢
  refine ⟨?_, by rw [List.length_append, List.length_map]; omega⟩
  rw [walkG_append]
  cases hw : walkG 0 [] l with
  | none => rw [hw] at h; simp at h
  | some m =>
    show (walkG (0 + l.length) m (l.map (mvN l.length))).isSome = true
    have := walkG_again (N := l.length) (M := m) l 0 (fun n hn => by
      obtain ⟨j, hj, rfl⟩ := List.mem_iff_getElem.1 hn
      exact ⟨(hargs j hj).2, fun h1 => (walkG_inv l 0 [] m hw).1 _ hn h1⟩) (fun j hj a hm => by
      have := (hargs j hj).1 a hm
      rw [Nat.zero_add]; exact this)
    rw [Nat.add_zero] at this
    rw [Nat.zero_add, this]; rfl
theorem evAll_again {l : List Nd} {input : Tn} {ps : List Tn} (hc : checkG l = true) (h12 : l.length ≤ 12) :
    evAll (l ++ l.map (mvN l.length)) input ps = if (evAll l input ps).2.2 = 0 then ((evAll l input ps).1 ++ (evAll l input ps).1, -1, 0) else evAll l input ps := by
  have hc2 := checkG_again hc h12
  have hargs : ∀ j (hj : j < l.length), ∀ a ∈ l[j].args, 0 ≤ a ∧ a < (((0 : Nat) + j : Nat) : Int) := fun j hj a hm => by rw [Nat.zero_add]; exact (checkG_args hc hj).1 a hm
  have hS : shapesF l = shapesL l [] := by unfold shapesF; rw [if_pos hc]
  have hS2 : shapesF (l ++ l.map (mvN l.length)) = shapesL (l ++ l.map (mvN l.length)) [] := by unfold shapesF; rw [if_pos hc2]
  rw [shapesL_append] at hS2
  unfold evAll
  rw [hS, hS2]
  by_cases hz : (shapesL l []).2.2 = 0
  · obtain ⟨q1, _, _⟩ := shapesL_len l [] hz
    have e := shapesL_again (shapesL l []).1 l [] hargs hz
    rw [List.append_nil, show (shapesL l []).1.length = l.length from by simpa using q1] at e
    rw [if_pos hz, e, if_pos rfl, if_pos hz, evLst_append]
    by_cases hy : (evLst input ps l []).2.2 = 0
    · obtain ⟨q3, _, _⟩ := evLst_len input ps l [] hy
      have e2 := evLst_again input ps (evLst input ps l []).1 l [] hargs hy
      rw [List.append_nil, show (evLst input ps l []).1.length = l.length from by simpa using q3] at e2
      rw [if_pos hy, if_pos hy, e2]
    · rw [if_neg hy, if_neg hy]
  · rw [if_neg hz, if_neg hz, if_neg hz, if_neg (show ¬ (([], (shapesL l []).2.1, (shapesL l []).2.2) : List Tn × Int × Int).2.2 = 0 from hz)]
end Go.AM

namespace Go.AM
open Go
theorem Weak.freezeC {G : Ground} {s : AS} (t i : Nat) {cs : List AC} {c : AC} {v : PV} {σ' : Sto} (ho0 : lo s.σ t = .cells true cs) (hc : cs[i]? = some c) (h : toP 6 c s.σ = some (v, σ')) (ho : lo σ' t = .cells true cs) :
    Weak G s { s with σ := (t, .cells true (cs.set i (.p v))) :: σ' } := by
  rintro a w ⟨A, τ, hs⟩
  obtain ⟨A', i1, h1, k⟩ := toP_sound 6 c s σ' v A hs h
  have hoS := hs.obj t
  rw [ho0] at hoS
  obtain ⟨b0, xs0, e0, p1, p2, p3, p4⟩ := hoS
  have key : ∀ u, (lo ((t, .cells true (cs.set i (.p v))) :: σ') u ≠ .none → lo σ' u ≠ .none) ∧ (lo ((t, .cells true (cs.set i (.p v))) :: σ') u).mu = (lo σ' u).mu := fun u => by
    rw [lo_put]
    by_cases hu : u = t
    · subst hu
      rw [if_pos rfl, ho]
      exact ⟨fun _ => nofun, rfl⟩
    · rw [if_neg hu]; exact ⟨id, rfl⟩
  refine ⟨A', τ, h1.below, h1.a0, h1.a1, h1.alt, h1.size, h1.env, fun u => ?_, fun u u' b n1 n2 hne hmu hb => ?_, h1.ex, h1.marks⟩
  · rw [lo_put]
    by_cases hu : u = t
    · subst hu
      rw [if_pos rfl]
      have := h1.obj u
      simp only [ho] at this
      obtain ⟨b, xs, e, q1, q2, q3, q4⟩ := this
      rw [p1] at q1; cases q1
      rw [p2] at q2; cases q2
      refine ⟨b0, xs0, e0, p1, p2, All2.of_get (by rw [List.length_set]; exact q3.length) fun j c' x hc' hx => ?_, q4⟩
      by_cases hj : j = i
      · subst hj
        rw [List.getElem?_set_self (by have := (List.getElem?_eq_some_iff.1 hc).1; exact this)] at hc'
        cases hc'
        obtain ⟨y, hy, hr⟩ := p3.get j _ hc
        rw [hy] at hx; cases hx
        exact .c0 (.p _ _ (k _ hr))
      · rw [List.getElem?_set_ne (Ne.symm hj)] at hc'
        obtain ⟨y, hy, hr⟩ := q3.get j _ hc'
        rw [hy] at hx; cases hx
        exact hr
    · rw [if_neg hu]; exact h1.obj u
  · exact h1.sep u u' b ((key u).1 n1) ((key u').1 n2) hne ((key u).2 ▸ hmu) hb
end Go.AM

namespace Go.AM
open Go Go.Proofs
set_option maxRecDepth 100000
set_option maxHeartbeats 16000000

theorem again_ok {l : List Nd} (N : Nat) (hl : ∀ n ∈ l, n.args.length ≤ MaxN) : ∀ n ∈ l ++ l.map (mvN N), n.args.length ≤ MaxN := fun n hn => by
  rcases List.mem_append.1 hn with hn | hn
  · exact hl n hn
  · obtain ⟨m, hm, rfl⟩ := List.mem_map.1 hn
    show (m.args.map _).length ≤ _
    rw [List.length_map]; exact hl m hm
theorem again_64 {l : List Nd} (N : Nat) (hl : ∀ n ∈ l, I64s n.nums) : ∀ n ∈ l ++ l.map (mvN N), I64s n.nums := fun n hn => by
  rcases List.mem_append.1 hn with hn | hn
  · exact hl n hn
  · obtain ⟨m, hm, rfl⟩ := List.mem_map.1 hn
    exact hl m hm
theorem p_EvalAgain (l : List Nd) (input : Tn) (ps : List Tn) (hi64 : I64s input.2) (hp64 : ∀ x ∈ ps, I64s x.2) (hn64 : ∀ n ∈ l, I64s n.nums) :
    PureC Tryz.prog fi_fullerlaw13_EvalAgain [dNds l, dT input.1 input.2, dTs ps] (dB true) := by
  refine pure_fullerlaw13_EvalAgain (by simp) fun G hP hn => ?_
  refine T_wf 0 fun h00 => ?_
  refine T_wf 2 fun h20 => ?_
  have h0 : l.length ≤ MaxN := by simpa using wf_rows (rows := l.map rNd) h00
  have h2 : ps.length ≤ MaxN := by simpa using wf_rows (rows := rTn ps) h20
  clear h00 h20
  have hM : MaxN = 140737488355328 := rfl
  have kf := p_ref10_Few l h0
  have kg := p_few13 input ps h2
  cases f1 : fewN l
  · rw [f1] at kf
    refine go trivial (aa @p_awake13 kf) ?_
    exact ends_ret rfl rfl rfl rfl
  rw [f1] at kf
  cases f2 : (fewT input.1 input.2 && fewTs 10 ps)
  · rw [f2] at kg
    refine go trivial (aa @p_awake13 <| aa kf kg) ?_
    exact ends_ret rfl rfl rfl rfl
  rw [f2] at kg
  by_cases f3 : (l.length : Int) > 12
  · refine go f3 (aa @p_awake13 <| aa kf kg) ?_
    exact ends_ret rfl rfl rfl rfl
  obtain ⟨hl2, hl30⟩ := fewN_iff f1
  have hlA : ∀ n ∈ l, n.args.length ≤ MaxN := fun n hn => by have := (hl2 n hn).1; omega
  have kc := p_graph_Check l h0 hlA
  cases hck : checkG l
  · rw [hck] at kc
    refine go f3 (aa @p_awake13 <| aa kf <| aa kg kc) ?_
    exact ends_ret rfl rfl rfl rfl
  rw [hck] at kc
  have h12 : l.length ≤ 12 := by omega
  have kA := p_eval_All l input ps h0 hlA h2 hi64 hp64 hn64
  have kB := p_eval_All (l ++ l.map (mvN l.length)) input ps (by rw [List.length_append, List.length_map]; omega) (again_ok l.length hlA) h2 hi64 hp64 (again_64 l.length hn64)
  rw [evAll_again hck h12] at kB
  have hok := fun (h : (evAll l input ps).2.2 = 0) => (evAll_ok h).2.2.1
  have hok2 := fun (h : (evAll l input ps).2.2 = 0) => (evAll_ok h).2.2.2
  have hargs := fun (j : Nat) (hj : j < l.length) => checkG_args hck hj
  generalize evAll l input ps = A at *
  have hrow : (l ++ l.map (mvN l.length)).map rNd = l.map rNd ++ (l.map (mvN l.length)).map rNd := List.map_append
  have kB' : PureC Tryz.prog fi_eval_All [.one (.sl ((l ++ l.map (mvN l.length)).map rNd)), dT input.1 input.2, dTs ps] _ := kB
  rw [hrow] at kB'
  clear kB hrow hl2 hlA f1 f2 hn64 hck
  obtain ⟨i1, i2⟩ := input
  have al3 : (l.map rNd).all (fun r => r.length == 3) = true := by simp
  have b3 : l.length * 56 ≤ 2 ^ 40 := by omega
  have b4 : l.length ≤ 2 ^ 40 := by omega
  refine go (aa f3 <| aa @al3 <| aa b3 b4) (aa @p_awake13 <| aa kf <| aa kg kc) ?_
  refine T_for l.length (fun i (acc : List Nd) => { env := [(0, .one (.p (.sl (l.map rNd)))), (2, .one (.p (.sl (rTn ps)))), (4, .one (.ptr 4 0 2 0)), (7, .one (.p (.bool true))), (8, .one (.msl 39 0 3 (l.length + i) none)), (9, .one (.p (.int .i64 i)))], σ := [(4, .cells true [.p (eI i1), .p (eI i2)]), (39, .arr true 3 (l.map rNd ++ acc.map rNd))] })
    (fun i acc => acc = (l.take i).map (mvN l.length)) [] (by simp) ?_ fun i acc hi hacc => ?_
  · refine Weak.sub fun q hq => ?_
    simp only [List.mem_cons, List.not_mem_nil, or_false] at hq
    rcases hq with rfl | rfl
    · rfl
    · simp [lo]
  have hal : acc.length = i := by rw [hacc, List.length_map, List.length_take]; omega
  by_cases hlt : i < l.length
  rotate_left
  · obtain rfl : i = l.length := by omega
    rw [List.take_length] at hacc
    have c1 : ¬ (l.length : Int) < l.length := by omega
    rw [← hacc] at kB'
    refine T_weak (Weak.freeze (i := 8) rfl (toD_list (n := 5) rfl (by simp [hal]))) ?_
    simp only [lo, Nat.reduceEqDiff, if_true, if_false, if_pos]
    generalize l.map rNd ++ acc.map rNd = M at *
    obtain ⟨A1, A2, A3⟩ := A
    simp only at kA kB' hok hok2
    by_cases hz : A3 = 0
    rotate_left
    · rw [if_neg hz] at kB'
      have e1 : (A3 != 0) = true := by simp [hz]
      refine go (aa c1 e1) (aa kA kB') ?_
      exact ends_ret rfl rfl rfl rfl
    subst hz
    rw [if_pos rfl] at kB'
    have hAl := hok rfl
    have w2 : IntKind.i64.wrap (2 * (l.length : Int)) = ((l.length + l.length : Nat) : Int) := by rw [wrap_in (by omega) (by omega)]; omega
    have tk1 : List.take l.length (rTn (A1 ++ A1)) = rTn A1 := by rw [← List.map_take, List.take_left' hAl]
    have tk2 : List.take (l.length + l.length - l.length) (List.drop l.length (rTn (A1 ++ A1))) = rTn A1 := by
      rw [← List.map_drop, List.drop_left' hAl, List.take_of_length_le (by rw [List.length_map]; omega)]
    have tl : (A1 ++ A1).length = l.length + l.length := by rw [List.length_append, hAl]
    have al2 : (rTn (A1 ++ A1)).all (fun r => r.length == 2) = true := by simp
    have kS := c_sameTs A1 (by omega)
    generalize A1 ++ A1 = B at *
    have g1 : (l.length : Int) ≤ ((l.length + l.length : Nat) : Int) := by omega
    refine go (aa c1 <| aa w2 <| aa @tk1 <| aa @tk2 <| aa @tl <| aa @al2 <| aa g1 hAl) (aa kA <| aa kB' kS) ?_
    exact ends_ret rfl rfl rfl rfl
  have c1 : (i : Int) < l.length := by omega
  have w1 : IntKind.i64.wrap ((i : Int) + 1) = ((i + 1 : Nat) : Int) := by rw [wrap_in (by omega) (by omega)]; rfl
  have hx := nd_some hlt
  have hnx : acc ++ [mvN l.length l[i]] = (l.take (i + 1)).map (mvN l.length) := by rw [List.take_add_one, hx, List.map_append, hacc]; rfl
  obtain ⟨hb, k, hk, hkl, _⟩ := hargs i hlt
  have ha2 := arity_le hk hkl
  generalize l[i] = n at *
  obtain ⟨op, args, nums⟩ := n
  simp only at hb ha2
  clear hk hkl kA kB' hok hok2 hargs
  refine go (aa c1 <| aa hx hlt) trivial ?_
  refine T_weak (Weak.nilC 10 101 1 1 rfl rfl rfl rfl) ?_
  refine T_for args.length (fun j (zs : List Int) => { env := [(0, .one (.p (.sl (l.map rNd)))), (2, .one (.p (.sl (rTn ps)))), (4, .one (.ptr 4 0 2 0)), (7, .one (.p (.bool true))), (8, .one (.msl 39 0 3 (l.length + i) none)), (9, .one (.p (.int .i64 i))), (10, .one (.ptr 10 0 3 0)), (11, .one (.p (.int .i64 j)))], σ := [(4, .cells true [.p (eI i1), .p (eI i2)]), (39, .arr true 3 (l.map rNd ++ acc.map rNd)), (10, .cells true [.p (.int .i64 op), .msl 101 0 1 j none, .p (eI nums)]), (101, .arr true 1 (rI zs))] })
    (fun j zs => zs = (args.take j).map (· + (l.length : Int))) [] (by simp) ?_ fun j zs hj hzs => ?_
  · refine Weak.sub fun q hq => ?_
    simp only [List.mem_cons, List.not_mem_nil, or_false] at hq
    rcases hq with rfl | rfl | rfl | rfl <;> rfl
  have hzl : zs.length = j := by rw [hzs, List.length_map, List.length_take]; omega
  by_cases hlj : j < args.length
  · have d1 : (j : Int) < args.length := by omega
    have v1 : IntKind.i64.wrap ((j : Int) + 1) = ((j + 1 : Nat) : Int) := by rw [wrap_in (by omega) (by omega)]; rfl
    have hab := hb args[j] (List.getElem_mem hlj)
    have hy : args[j]? = some args[j] := List.getElem?_eq_getElem hlj
    have v2 : IntKind.i64.wrap (args[j] + (l.length : Int)) = args[j] + (l.length : Int) := wrap_in (by omega) (by omega)
    have hn1 : zs ++ [args[j] + (l.length : Int)] = (args.take (j + 1)).map (· + (l.length : Int)) := by rw [List.take_add_one, hy, List.map_append, hzs]; rfl
    have c4 : (j + 1) * 8 ≤ 2 ^ 40 := by omega
    have c5 : j + 1 ≤ 2 ^ 40 := by omega
    generalize args[j] = a at *
    refine go (aa d1 <| aa v1 <| aa hlj <| aa hy <| aa v2 <| aa hx <| aa hlt <| aa hzl <| aa c4 <| aa c5 c1) trivial ?_
    refine rnd_next hlj (zs ++ [a + (l.length : Int)]) hn1 (Weak.sub fun q hq => ?_)
    simp only [List.mem_cons, List.not_mem_nil, or_false] at hq
    rcases hq with rfl | rfl | rfl | rfl
    · rfl
    · rfl
    · rfl
    · simp [lo, rI]
  obtain rfl : j = args.length := by omega
  rw [List.take_length] at hzs
  have d1 : ¬ (args.length : Int) < args.length := by omega
  have c4 : (l.length + i + 1) * 56 ≤ 2 ^ 40 := by omega
  have c5 : l.length + i + 1 ≤ 2 ^ 40 := by omega
  have hll : (l.map rNd ++ acc.map rNd).length = l.length + i := by simp [hal]
  refine T_weak (Weak.freezeC 10 1 rfl rfl (toD_list (n := 5) rfl (by simp [hzl])) rfl) ?_
  simp only [lo, Nat.reduceEqDiff, if_true, if_false, if_pos, List.set]
  refine go (aa d1 <| aa w1 <| aa hal <| aa hx <| aa hlt <| aa c1 <| aa c4 <| aa c5 hll) trivial ?_
  refine rnd_next hlt (acc ++ [mvN l.length ⟨op, args, nums⟩]) hnx (Weak.sub fun q hq => ?_)
  simp only [List.mem_cons, List.not_mem_nil, or_false] at hq
  rcases hq with rfl | rfl
  · rfl
  · simp [lo, mvN, hzs]
end Go.AM

