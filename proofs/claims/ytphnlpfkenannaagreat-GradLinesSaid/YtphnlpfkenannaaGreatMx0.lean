import Derived.ScopeJumps
import Derived.RangeFuncWrites
import Derived.RangeFuncLeaves
import Derived.Below
import Derived.KernelRfl
set_option linter.unusedVariables false
set_option linter.unusedSimpArgs false
namespace Go.AM
open Go.RowKit (Below)
inductive All2 {α β : Type} (R : α → β → Prop) : List α → List β → Prop
  | nil : All2 R [] []
  | cons {a b az bs} (h : R a b) (t : All2 R az bs) : All2 R (a :: az) (b :: bs)
theorem All2.mono {α β : Type} {R S : α → β → Prop} (h : ∀ a b, R a b → S a b) {az : List α} {bs : List β} (k : All2 R az bs) : All2 S az bs := by
  induction k with
  | nil => exact .nil
  | cons x _ ih => exact .cons (h _ _ x) ih
theorem All2.length {α β : Type} {R : α → β → Prop} {az : List α} {bs : List β} (k : All2 R az bs) : az.length = bs.length := by
  induction k with
  | nil => rfl
  | cons _ _ ih => simp [ih]
theorem All2.get {α β : Type} {R : α → β → Prop} {az : List α} {bs : List β} (k : All2 R az bs) : ∀ (i : Nat) (a : α), az[i]? = some a → ∃ b, bs[i]? = some b ∧ R a b := by
  induction k with
  | nil => intro i a h; simp at h
  | cons x _ ih =>
    intro i a h
    cases i with
    | zero => simp at h; subst h; exact ⟨_, rfl, x⟩
    | succ i => simpa using ih i a (by simpa using h)
theorem All2.of_get {α β : Type} {R : α → β → Prop} : ∀ {az : List α} {bs : List β}, az.length = bs.length → (∀ (i : Nat) a b, az[i]? = some a → bs[i]? = some b → R a b) → All2 R az bs
  | [], [], _, _ => .nil
  | [], _ :: _, h, _ => by simp at h
  | _ :: _, [], h, _ => by simp at h
  | a :: az, b :: bs, h, k => .cons (k 0 a b rfl rfl) (All2.of_get (by simpa using h) (fun i x y hx hy => k (i + 1) x y (by simpa using hx) (by simpa using hy)))
theorem All2.append {α β : Type} {R : α → β → Prop} {az az' : List α} {bs bs' : List β} (h : All2 R az bs) (k : All2 R az' bs') : All2 R (az ++ az') (bs ++ bs') := by
  induction h with
  | nil => exact k
  | cons x _ ih => exact .cons x ih
theorem All2.take {α β : Type} {R : α → β → Prop} {az : List α} {bs : List β} (h : All2 R az bs) (n : Nat) : All2 R (az.take n) (bs.take n) := by
  induction h generalizing n with
  | nil => simpa using All2.nil
  | cons x _ ih => cases n with
    | zero => exact .nil
    | succ n => exact .cons x (ih n)
theorem All2.drop {α β : Type} {R : α → β → Prop} {az : List α} {bs : List β} (h : All2 R az bs) (n : Nat) : All2 R (az.drop n) (bs.drop n) := by
  induction h generalizing n with
  | nil => simpa using All2.nil
  | cons x t ih => cases n with
    | zero => exact .cons x t
    | succ n => exact ih n
theorem All2.set {α β : Type} {R : α → β → Prop} {az : List α} {bs : List β} (h : All2 R az bs) (n : Nat) {a : α} {b : β} (hab : R a b) : All2 R (az.set n a) (bs.set n b) := by
  induction h generalizing n with
  | nil => simpa using All2.nil
  | cons x t ih => cases n with
    | zero => exact .cons hab t
    | succ n => exact .cons x (ih n)
def cell1 : Value → Bool
  | .agg _ | .tuple _ => false
  | _ => true
inductive PV where
  | top
  | int (k : IntKind) (n : Int)
  | bool (b : Bool)
  | str (s : ByteArray)
  | nilF
  | nilI
  | nilP
  | sl (rows : List (List PV))
  | fn (f : FuncId) (first caps : List PV)
  | box (cells : List PV)
  | map (es : List (Int × Bool × List PV))
  | ifc (t : TypeId) (c : PV)
  | ifcA (t : TypeId) (cs : List PV)
inductive J where
  | p (v : PV) (x : Value)
  | ps (vs : List PV) (xs : List Value)
  | at_ (vs : List PV) (b off : Nat)
  | en (es : List (Int × Bool × List PV)) (xs : List MapEntry)
def MaxN : Nat := 2 ^ 47
inductive Rel (A : Nat → Prop) (w : World) : J → Prop
  | top (x : Value) (h : cell1 x = true) : Rel A w (.p .top x)
  | int (k : IntKind) (n : Int) : Rel A w (.p (.int k n) (.int k n))
  | bool (b : Bool) : Rel A w (.p (.bool b) (.bool b))
  | str (s : ByteArray) : Rel A w (.p (.str s) (.string s))
  | nilF : Rel A w (.p .nilF .nilFunc)
  | nilI : Rel A w (.p .nilI .nilIface)
  | nilP : Rel A w (.p .nilP (.pointer none))
  | nil (a : Option Addr) (cap : Nat) : Rel A w (.p (.sl []) (.slice a 0 cap))
  | sl (rows : List (List PV)) (b off cap s : Nat) (hA : A b) (hs : ∀ r ∈ rows, r.length = s) (hl : rows.length ≤ MaxN) (hc : rows.length ≤ cap)
      (h : Rel A w (.at_ rows.flatten b off)) : Rel A w (.p (.sl rows) (.slice (some ⟨b, off, none⟩) rows.length cap))
  | fn (f : FuncId) (first caps : List PV) (vf vc : List Value) (h1 : Rel A w (.ps first vf)) (h2 : Rel A w (.ps caps vc)) :
      Rel A w (.p (.fn f first caps) (.func (.func f) ⟨vf⟩ ⟨vc⟩))
  | box (cells : List PV) (b off : Nat) (hA : A b) (h : Rel A w (.at_ cells b off)) : Rel A w (.p (.box cells) (.pointer (some ⟨b, off, none⟩)))
  | map (es : List (Int × Bool × List PV)) (b : Nat) (ces : Array MapEntry) (clock : Nat) (hA : A b) (hb : w.heap[b]? = some (.map ces clock))
      (h : Rel A w (.en es ces.toList)) : Rel A w (.p (.map es) (.map (some b)))
  | ifc (t : TypeId) (c : PV) (x : Value) (h : Rel A w (.p c x)) : Rel A w (.p (.ifc t c) (.iface t x))
  | ifcA (t : TypeId) (cs : List PV) (xs : List Value) (h : Rel A w (.ps cs xs)) : Rel A w (.p (.ifcA t cs) (.iface t (.agg ⟨xs⟩)))
  | psNil : Rel A w (.ps [] [])
  | psCons (c : PV) (x : Value) (cs : List PV) (xs : List Value) (h : Rel A w (.p c x)) (t : Rel A w (.ps cs xs)) : Rel A w (.ps (c :: cs) (x :: xs))
  | atNil (b off : Nat) : Rel A w (.at_ [] b off)
  | atCons (c : PV) (cs : List PV) (b off : Nat) (x : Value) (hx : w.cell? ⟨b, off, none⟩ = some x) (h : Rel A w (.p c x)) (t : Rel A w (.at_ cs b (off + 1))) :
      Rel A w (.at_ (c :: cs) b off)
  | enNil : Rel A w (.en [] [])
  | enOne (k : Int) (c : PV) (x : Value) (born : Nat) (es : List (Int × Bool × List PV)) (xs : List MapEntry) (h : Rel A w (.p c x)) (t : Rel A w (.en es xs)) :
      Rel A w (.en ((k, false, [c]) :: es) (⟨.int .i64 k, x, born⟩ :: xs))
  | enAgg (k : Int) (cs : List PV) (vs : List Value) (born : Nat) (es : List (Int × Bool × List PV)) (xs : List MapEntry) (h : Rel A w (.ps cs vs)) (t : Rel A w (.en es xs)) :
      Rel A w (.en ((k, true, cs) :: es) (⟨.int .i64 k, .agg ⟨vs⟩, born⟩ :: xs))
def Still (A : Nat → Prop) (w w' : World) : Prop := ∀ b, A b → w'.heap[b]? = w.heap[b]?
theorem Still.cell {A : Nat → Prop} {w w' : World} (h : Still A w w') {b : Nat} (hb : A b) (off : Nat) : w'.cell? ⟨b, off, none⟩ = w.cell? ⟨b, off, none⟩ := by
  simp only [World.cell?, h b hb]
theorem Rel.mono {A A' : Nat → Prop} {w w' : World} (hA : ∀ b, A b → A' b) (hw : Still A w w') {j : J} (h : Rel A w j) :
    match j with
    | .at_ vs b off => A b → Rel A' w' (.at_ vs b off)
    | j => Rel A' w' j := by
  induction h with
  | top x h => exact .top x h
  | int k n => exact .int k n
  | bool b => exact .bool b
  | str s => exact .str s
  | nilF => exact .nilF
  | nilI => exact .nilI
  | nilP => exact .nilP
  | nil a cap => exact .nil a cap
  | sl rows b off cap s hb hs hl hc h ih => exact .sl rows b off cap s (hA b hb) hs hl hc (ih hb)
  | fn f first caps vf vc h1 h2 ih1 ih2 => exact .fn f first caps vf vc ih1 ih2
  | box cells b off hb h ih => exact .box cells b off (hA b hb) (ih hb)
  | map es b ces clock hb he h ih => exact .map es b ces clock (hA b hb) ((hw b hb).trans he) ih
  | ifc t c x h ih => exact .ifc t c x ih
  | ifcA t cs xs h ih => exact .ifcA t cs xs ih
  | psNil => exact .psNil
  | psCons c x cs xs h t ih1 ih2 => exact .psCons c x cs xs ih1 ih2
  | atNil b off => exact fun _ => .atNil b off
  | atCons c cs b off x hx h t ih1 ih2 => exact fun hb => .atCons c cs b off x (by rw [hw.cell hb]; exact hx) ih1 (ih2 hb)
  | enNil => exact .enNil
  | enOne k c x born es xs h t ih1 ih2 => exact .enOne k c x born es xs ih1 ih2
  | enAgg k cs vs born es xs h t ih1 ih2 => exact .enAgg k cs vs born es xs ih1 ih2
abbrev PRel (A : Nat → Prop) (w : World) (v : PV) (x : Value) : Prop := Rel A w (.p v x)
abbrev PRels (A : Nat → Prop) (w : World) (vs : List PV) (xs : List Value) : Prop := Rel A w (.ps vs xs)
abbrev PAt (A : Nat → Prop) (w : World) (vs : List PV) (b off : Nat) : Prop := Rel A w (.at_ vs b off)
theorem PRel.mono {A A' : Nat → Prop} {w w' : World} {v : PV} {x : Value} (h : PRel A w v x) (hA : ∀ b, A b → A' b) (hw : Still A w w') : PRel A' w' v x := Rel.mono hA hw h
theorem PRels.mono {A A' : Nat → Prop} {w w' : World} {v : List PV} {x : List Value} (h : PRels A w v x) (hA : ∀ b, A b → A' b) (hw : Still A w w') : PRels A' w' v x := Rel.mono hA hw h
theorem PAt.mono {A A' : Nat → Prop} {w w' : World} {v : List PV} {b off : Nat} (h : PAt A w v b off) (hb : A b) (hA : ∀ b, A b → A' b) (hw : Still A w w') : PAt A' w' v b off := Rel.mono hA hw h hb
theorem PRel.cell1 {A : Nat → Prop} {w : World} {v : PV} {x : Value} (h : PRel A w v x) : cell1 x = true := by
  cases h <;> first | rfl | assumption
theorem PRels.all2 {A : Nat → Prop} {w : World} {vs : List PV} {xs : List Value} : PRels A w vs xs ↔ All2 (PRel A w) vs xs := by
  constructor
  · intro h
    induction vs generalizing xs with
    | nil => cases h; exact .nil
    | cons v vs ih => cases h with | psCons _ _ _ _ h t => exact .cons h (ih t)
  · intro h
    induction h with
    | nil => exact .psNil
    | cons h _ ih => exact .psCons _ _ _ _ h ih
theorem PAt.get {A : Nat → Prop} {w : World} : ∀ {vs : List PV} {b off : Nat}, PAt A w vs b off → ∀ (i : Nat) (v : PV), vs[i]? = some v → ∃ x, w.cell? ⟨b, off + i, none⟩ = some x ∧ PRel A w v x
  | _ :: _, b, off, .atCons c cs _ _ x hx h t, i, v, hi => by
    cases i with
    | zero => simp at hi; subst hi; exact ⟨x, hx, h⟩
    | succ i =>
      obtain ⟨y, hy, hr⟩ := PAt.get t i v (by simpa using hi)
      exact ⟨y, by rw [← hy]; congr 2; omega, hr⟩
  | [], _, _, _, i, v, hi => by simp at hi
theorem PAt.of_get {A : Nat → Prop} {w : World} : ∀ {vs : List PV} {b off : Nat}, (∀ (i : Nat) (v : PV), vs[i]? = some v → ∃ x, w.cell? ⟨b, off + i, none⟩ = some x ∧ PRel A w v x) → PAt A w vs b off
  | [], b, off, _ => .atNil b off
  | v :: vs, b, off, h => by
    obtain ⟨x, hx, hr⟩ := h 0 v rfl
    exact .atCons v vs b off x hx hr (PAt.of_get fun i u hu => by
      obtain ⟨y, hy, hs⟩ := h (i + 1) u (by simpa using hu)
      exact ⟨y, by rw [← hy]; congr 2; omega, hs⟩)
theorem PAt.append {A : Nat → Prop} {w : World} {vs us : List PV} {b off : Nat} (h : PAt A w vs b off) (k : PAt A w us b (off + vs.length)) : PAt A w (vs ++ us) b off := by
  refine PAt.of_get fun i v hi => ?_
  rw [List.getElem?_append] at hi
  split at hi
  · exact h.get i v hi
  · obtain ⟨x, hx, hr⟩ := k.get _ v hi
    exact ⟨x, by rw [← hx]; congr 2; omega, hr⟩
theorem PAt.part {A : Nat → Prop} {w : World} {vs : List PV} {b off : Nat} (h : PAt A w vs b off) (m n : Nat) : PAt A w ((vs.drop m).take n) b (off + m) := by
  refine PAt.of_get fun i v hi => ?_
  have h1 : (vs.drop m)[i]? = some v := by
    rw [List.getElem?_take] at hi
    split at hi
    · exact hi
    · simp at hi
  rw [List.getElem?_drop] at h1
  obtain ⟨x, hx, hr⟩ := h.get _ v h1
  exact ⟨x, by rw [← hx]; congr 2; omega, hr⟩
end Go.AM

namespace Go.AM
open Go.RowKit (Below)
inductive AC where
  | p (v : PV)
  | nils
  | ptr (t i s off : Nat)
  | msl (t o s len : Nat) (cap : Option Nat)
  | mmap (t : Nat)
  | mfn (f : FuncId) (first caps : List AC)
  | raw (x : Value)
inductive AV where
  | one (c : AC)
  | agg (cs : List AC)
  | tup (xs : List AV)
  | top
  | und
inductive AO where
  | none
  | cells (m : Bool) (cs : List AC)
  | arr (m : Bool) (s : Nat) (rows : List (List PV))
  | map (m : Bool) (es : List (Int × Bool × List PV))
def AO.mu : AO → Bool
  | .none => false
  | .cells m _ | .arr m _ _ | .map m _ => m
abbrev Tau := Nat → Option Nat
inductive C0 (A : Nat → Prop) (τ : Tau) (w : World) : AC → Value → Prop
  | p (v : PV) (x : Value) (h : PRel A w v x) : C0 A τ w (.p v) x
  | nils : C0 A τ w .nils (.slice none 0 0)
  | ptr (t i s off b : Nat) (h : τ t = some b) : C0 A τ w (.ptr t i s off) (.pointer (some ⟨b, i * s + off, none⟩))
  | mslN (t o s : Nat) (cap : Option Nat) (a : Option Addr) (h : τ t = none) (hc : ∀ n, cap = some n → n = 0) : C0 A τ w (.msl t o s 0 cap) (.slice a 0 0)
  | msl (t o s len b c : Nat) (cap : Option Nat) (h : τ t = some b) (hc : ∀ n, cap = some n → c = n) (hl : len ≤ c)
      (hr : ∃ cs e, w.heap[b]? = some (.cells cs e (0, 0)) ∧ (o + c) * s ≤ cs.size ∧ (cap = none → (o + c) * s = cs.size)) : C0 A τ w (.msl t o s len cap) (.slice (some ⟨b, o * s, none⟩) len c)
  | mmap (t b : Nat) (h : τ t = some b) : C0 A τ w (.mmap t) (.map (some b))
  | raw (x : Value) (h : cell1 x = true) : C0 A τ w (.raw x) x
inductive CRel (A : Nat → Prop) (τ : Tau) (w : World) : AC → Value → Prop
  | c0 {c : AC} {x : Value} (h : C0 A τ w c x) : CRel A τ w c x
  | mfn (f : FuncId) (first caps : List AC) (vf vc : List Value) (h1 : All2 (C0 A τ w) first vf) (h2 : All2 (C0 A τ w) caps vc) :
      CRel A τ w (.mfn f first caps) (.func (.func f) ⟨vf⟩ ⟨vc⟩)
inductive V1 (A : Nat → Prop) (τ : Tau) (w : World) : AV → Value → Prop
  | one {c : AC} {x : Value} (h : CRel A τ w c x) : V1 A τ w (.one c) x
  | agg {cs : List AC} {xs : List Value} (h : All2 (CRel A τ w) cs xs) : V1 A τ w (.agg cs) (.agg ⟨xs⟩)
  | top (x : Value) : V1 A τ w .top x
  | und : V1 A τ w .und undef
inductive VRel (A : Nat → Prop) (τ : Tau) (w : World) : AV → Value → Prop
  | v1 {v : AV} {x : Value} (h : V1 A τ w v x) : VRel A τ w v x
  | tup {vs : List AV} {xs : List Value} (h : All2 (V1 A τ w) vs xs) : VRel A τ w (.tup vs) (.tuple ⟨xs⟩)
theorem C0.cell1 {A : Nat → Prop} {τ : Tau} {w : World} {c : AC} {x : Value} (h : C0 A τ w c x) : cell1 x = true := by
  cases h <;> first | rfl | assumption | exact PRel.cell1 (by assumption)
theorem CRel.cell1 {A : Nat → Prop} {τ : Tau} {w : World} {c : AC} {x : Value} (h : CRel A τ w c x) : cell1 x = true := by
  cases h with
  | c0 h => exact h.cell1
  | mfn => rfl
def ORel (M : Nat → Prop) (A : Nat → Prop) (τ : Tau) (w : World) (t : Nat) : AO → Prop
  | .none => True
  | .cells m cs => ∃ b xs e, τ t = some b ∧ w.heap[b]? = some (.cells ⟨xs⟩ e (0, 0)) ∧ All2 (CRel A τ w) cs xs ∧
      (if m then M b ∧ ¬ A b else A b ∧ ∀ c ∈ cs, ∃ v, c = .p v)
  | .arr m s rows => (∀ r ∈ rows, r.length = s) ∧ rows.length ≤ MaxN ∧
      ((τ t = none ∧ rows = []) ∨
      ∃ b xs e, τ t = some b ∧ w.heap[b]? = some (.cells xs e (0, 0)) ∧ rows.length * s ≤ xs.size ∧ PAt A w rows.flatten b 0 ∧
      (if m then M b ∧ ¬ A b else A b))
  | .map m es => ∃ b ces clock, τ t = some b ∧ w.heap[b]? = some (.map ces clock) ∧ Rel A w (.en es ces.toList) ∧ (if m then M b ∧ ¬ A b else A b)
def lk (e : List (Nat × AV)) (i : Nat) : AV :=
  match e with
  | [] => .top
  | (j, v) :: r => if i = j then v else lk r i
def lo (e : List (Nat × AO)) (i : Nat) : AO :=
  match e with
  | [] => .none
  | (j, v) :: r => if i = j then v else lo r i
structure AS where
  env : List (Nat × AV)
  σ : List (Nat × AO)
  ex : List AV := []
structure Ground where
  P : Program
  w0 : World
  A0 : Nat → Prop
  nt : Nat
  exv : List Value := []
  ow : Nat → Prop := fun _ => False
def Ground.N (G : Ground) : Nat := G.w0.heap.size
def Ground.M (G : Ground) (b : Nat) : Prop := G.N ≤ b ∨ G.ow b
structure Ground.Bel (G : Ground) (w : World) : Prop where
  os : w.os = G.w0.os
  tape : w.tape = G.w0.tape
  output : w.output = G.w0.output
  size : G.N ≤ w.heap.size
  block : ∀ k, k < G.N → ¬ G.ow k → w.heap[k]? = G.w0.heap[k]?
theorem Ground.Bel.plain {G : Ground} {w : World} (h : G.Bel w) (hno : ∀ k, ¬ G.ow k) : Below G.N G.w0 w := ⟨h.os, h.tape, h.output, h.size, fun k hk => h.block k hk (hno k)⟩
def Marks (N : Nat) (A : Nat → Prop) (w : World) : List Deferred → Prop
  | [] => True
  | d :: ds => (∃ r, d = { target := .collected r, args := #[] } ∧ N ≤ r ∧ ¬ A r ∧ w.heap[r]? = some (.deferred (some [])) ∧ d ∉ ds) ∧ Marks N A w ds
structure SimAt (G : Ground) (s : AS) (a : Act) (w : World) (A : Nat → Prop) (τ : Tau) : Prop where
  below : G.Bel w
  a0 : ∀ b, G.A0 b → A b
  a1 : ∀ b, A b → G.A0 b ∨ G.M b
  alt : ∀ b, A b → b < w.heap.size
  size : a.tmps.size = G.nt
  env : ∀ i, VRel A τ w (lk s.env i) (a.tmps.getD i undef)
  obj : ∀ t, ORel G.M A τ w t (lo s.σ t)
  sep : ∀ t t' b, lo s.σ t ≠ .none → lo s.σ t' ≠ .none → t ≠ t' → (lo s.σ t).mu = true → τ t = some b → τ t' ≠ some b
  ex : All2 (VRel A τ w) s.ex G.exv
  marks : Marks G.N A w a.defers
structure WStep (B : Nat → Prop) (w w' : World) : Prop where
  os : w'.os = w.os
  tape : w'.tape = w.tape
  output : w'.output = w.output
  size : w.heap.size ≤ w'.heap.size
  same : ∀ b, b < w.heap.size → ¬ B b → w'.heap[b]? = w.heap[b]?
  cells : ∀ (b : Nat) (cs : Array Value) (e : TypeId), w.heap[b]? = some (Obj.cells cs e (0, 0)) → ∃ cs' : Array Value, w'.heap[b]? = some (Obj.cells cs' e (0, 0)) ∧ cs'.size = cs.size
theorem heap_lt {w : World} {b : Nat} {o : Obj} (h : w.heap[b]? = some o) : b < w.heap.size := (Array.getElem?_eq_some_iff.1 h).1
theorem WStep.still {B A : Nat → Prop} {w w' : World} (h : WStep B w w') (hlt : ∀ b, A b → b < w.heap.size) (hB : ∀ b, A b → ¬ B b) : Still A w w' :=
  fun b hb => h.same b (hlt b hb) (hB b hb)
theorem WStep.refl (w : World) : WStep (fun _ => False) w w :=
  ⟨rfl, rfl, rfl, Nat.le_refl _, fun _ _ _ => rfl, fun _ cs _ h => ⟨cs, h, rfl⟩⟩
theorem WStep.drew (w : World) (n : Nat) : WStep (fun _ => False) w { w with drawn := n } :=
  ⟨rfl, rfl, rfl, Nat.le_refl _, fun _ _ _ => rfl, fun _ cs _ h => ⟨cs, h, rfl⟩⟩
theorem WStep.push (w : World) (o : Obj) : WStep (fun _ => False) w { w with heap := w.heap.push o } := by
  have key : ∀ b, b < w.heap.size → (w.heap.push o)[b]? = w.heap[b]? := fun b hb => by rw [Array.getElem?_push, if_neg (by omega)]
  exact ⟨rfl, rfl, rfl, by simp, fun b hb _ => key b hb, fun b cs e h => ⟨cs, (key b (heap_lt h)).trans h, rfl⟩⟩
theorem WStep.below {w w' : World} (h : Below w.heap.size w w') : WStep (fun _ => False) w w' :=
  ⟨h.os, h.tape, h.output, h.size, fun b hb _ => h.block b hb, fun b cs _ hc => ⟨cs, (h.block b (heap_lt hc)).trans hc, rfl⟩⟩
theorem WStep.trans {B C : Nat → Prop} {a b c : World} (h : WStep B a b) (k : WStep C b c) : WStep (fun x => B x ∨ C x) a c := by
  refine ⟨k.os.trans h.os, k.tape.trans h.tape, k.output.trans h.output, Nat.le_trans h.size k.size, fun i hi hn => ?_, fun i cs e hc => ?_⟩
  · exact (k.same i (Nat.lt_of_lt_of_le hi h.size) (fun hh => hn (.inr hh))).trans (h.same i hi (fun hh => hn (.inl hh)))
  · obtain ⟨cs1, h1, s1⟩ := h.cells i cs e hc
    obtain ⟨cs2, h2, s2⟩ := k.cells i cs1 e h1
    exact ⟨cs2, h2, s2.trans s1⟩
theorem WStep.weak {B C : Nat → Prop} {a b : World} (h : WStep B a b) (hBC : ∀ x, B x → C x) : WStep C a b :=
  ⟨h.os, h.tape, h.output, h.size, fun i hi hn => h.same i hi (fun hh => hn (hBC i hh)), h.cells⟩
abbrev KeepD (w w' : World) : Prop := ∀ (b : Nat) ds, w.heap[b]? = some (Obj.deferred ds) → w'.heap[b]? = some (Obj.deferred ds)
theorem WStep.dfr {B : Nat → Prop} {w w' : World} (h : WStep B w w') (hB : ∀ b, B b → ∀ ds, w.heap[b]? ≠ some (Obj.deferred ds)) : KeepD w w' :=
  fun b ds hd => (h.same b (heap_lt hd) (fun hb => hB b hb ds hd)).trans hd
theorem WStep.dfr0 {w w' : World} (h : WStep (fun _ => False) w w') : KeepD w w' := h.dfr fun _ hf => hf.elim
def AC.has (t : Nat) : AC → Bool
  | .ptr u _ _ _ => u == t
  | .msl u _ _ _ _ => u == t
  | .mmap u => u == t
  | .mfn _ f c => hasL t f || hasL t c
  | _ => false
where hasL (t : Nat) : List AC → Bool
  | [] => false
  | c :: cs => AC.has t c || hasL t cs
def AV.has (t : Nat) : AV → Bool
  | .one c => c.has t
  | .agg cs => AC.has.hasL t cs
  | .tup xs => hasV t xs
  | .top => false
  | .und => false
where hasV (t : Nat) : List AV → Bool
  | [] => false
  | c :: cs => AV.has t c || hasV t cs
section move
variable {A A' : Nat → Prop} {τ τ' : Tau} {w w' : World} {B : Nat → Prop}
theorem C0.step (hw : WStep B w w') (hA : ∀ b, A b → A' b) (hst : Still A w w') {c : AC} {x : Value} (h : C0 A τ w c x)
    (hτ : ∀ t, c.has t = true → τ' t = τ t) : C0 A' τ' w' c x := by
  cases h with
  | p v x h => exact .p v x (h.mono hA hst)
  | nils => exact .nils
  | ptr t i s off b h => exact .ptr t i s off b ((hτ t (by simp [AC.has])).trans h)
  | mslN t o s cap a h hc => exact .mslN t o s cap a ((hτ t (by simp [AC.has])).trans h) hc
  | msl t o s len b c cap h hc hl hr =>
    obtain ⟨cs, e, h1, h2, h2'⟩ := hr
    obtain ⟨cs', h3, h4⟩ := hw.cells b cs e h1
    exact .msl t o s len b c cap ((hτ t (by simp [AC.has])).trans h) hc hl ⟨cs', e, h3, by omega, fun hn => by have := h2' hn; omega⟩
  | mmap t b h => exact .mmap t b ((hτ t (by simp [AC.has])).trans h)
  | raw x h => exact .raw x h
theorem All2.stepL {α β : Type} {R S : α → β → Prop} {p : α → Prop} {az : List α} {bs : List β} (h : All2 R az bs) (hp : ∀ a ∈ az, p a)
    (k : ∀ a b, p a → R a b → S a b) : All2 S az bs := by
  induction h with
  | nil => exact .nil
  | cons x _ ih => exact .cons (k _ _ (hp _ (by simp)) x) (ih fun a ha => hp a (by simp [ha]))
theorem hasL_mem {t : Nat} {cs : List AC} {c : AC} (hc : c ∈ cs) (h : c.has t = true) : AC.has.hasL t cs = true := by
  induction cs with
  | nil => simp at hc
  | cons d ds ih =>
    simp only [AC.has.hasL, Bool.or_eq_true]
    rcases List.mem_cons.1 hc with rfl | hc
    · exact .inl h
    · exact .inr (ih hc)
theorem hasV_mem {t : Nat} {cs : List AV} {c : AV} (hc : c ∈ cs) (h : c.has t = true) : AV.has.hasV t cs = true := by
  induction cs with
  | nil => simp at hc
  | cons d ds ih =>
    simp only [AV.has.hasV, Bool.or_eq_true]
    rcases List.mem_cons.1 hc with rfl | hc
    · exact .inl h
    · exact .inr (ih hc)
theorem CRel.step (hw : WStep B w w') (hA : ∀ b, A b → A' b) (hst : Still A w w') {c : AC} {x : Value} (h : CRel A τ w c x)
    (hτ : ∀ t, c.has t = true → τ' t = τ t) : CRel A' τ' w' c x := by
  cases h with
  | c0 h => exact .c0 (h.step hw hA hst hτ)
  | mfn f first caps vf vc h1 h2 =>
    exact .mfn f first caps vf vc
      (h1.stepL (p := fun c => ∀ t, c.has t = true → τ' t = τ t) (fun c hc t ht => hτ t (by simp [AC.has, hasL_mem hc ht])) (fun _ _ hp h => h.step hw hA hst hp))
      (h2.stepL (p := fun c => ∀ t, c.has t = true → τ' t = τ t) (fun c hc t ht => hτ t (by simp [AC.has, hasL_mem hc ht])) (fun _ _ hp h => h.step hw hA hst hp))
theorem V1.step (hw : WStep B w w') (hA : ∀ b, A b → A' b) (hst : Still A w w') {c : AV} {x : Value} (h : V1 A τ w c x)
    (hτ : ∀ t, c.has t = true → τ' t = τ t) : V1 A' τ' w' c x := by
  cases h with
  | one h => exact .one (h.step hw hA hst hτ)
  | agg h => exact .agg (h.stepL (p := fun c => ∀ t, c.has t = true → τ' t = τ t) (fun c hc t ht => hτ t (by simp [AV.has, hasL_mem hc ht])) (fun _ _ hp h => h.step hw hA hst hp))
  | top => exact .top _
  | und => exact .und
theorem VRel.step (hw : WStep B w w') (hA : ∀ b, A b → A' b) (hst : Still A w w') {c : AV} {x : Value} (h : VRel A τ w c x)
    (hτ : ∀ t, c.has t = true → τ' t = τ t) : VRel A' τ' w' c x := by
  cases h with
  | v1 h => exact .v1 (h.step hw hA hst hτ)
  | tup h => exact .tup (h.stepL (p := fun c => ∀ t, c.has t = true → τ' t = τ t) (fun c hc t ht => hτ t (by simp [AV.has, hasV_mem hc ht])) (fun _ _ hp h => h.step hw hA hst hp))
end move
theorem ORel.step {M : Nat → Prop} {A A' : Nat → Prop} {τ τ' : Tau} {w w' : World} {B : Nat → Prop} (hw : WStep B w w') (hA : ∀ b, A b → A' b) (hst : Still A w w')
    (hAn : ∀ b, A' b → A b ∨ w.heap.size ≤ b) {t : Nat} {o : AO} (h : ORel M A τ w t o) (hb : ∀ b, o ≠ .none → τ t = some b → b < w.heap.size → w'.heap[b]? = w.heap[b]?)
    (ht : τ' t = τ t) (hτ : ∀ u, (match o with | .cells _ cs => AC.has.hasL u cs = true | _ => False) → τ' u = τ u) : ORel M A' τ' w' t o := by
  have mm : ∀ (m : Bool) b, b < w.heap.size → (if m then M b ∧ ¬ A b else A b) → (if m then M b ∧ ¬ A' b else A' b) := by
    intro m b hlt h
    cases m
    · exact hA b h
    · exact ⟨h.1, fun h' => (hAn b h').elim (fun h2 => h.2 h2) (fun h2 => by omega)⟩
  cases o with
  | none => trivial
  | cells m cs =>
    obtain ⟨b, xs, e, h1, h2, h3, h4⟩ := h
    refine ⟨b, xs, e, ht.trans h1, (hb b (by simp) h1 (heap_lt h2)).trans h2, ?_, ?_⟩
    · exact h3.stepL (p := fun c => ∀ t, c.has t = true → τ' t = τ t) (fun c hc t ht => hτ t (hasL_mem hc ht)) (fun _ _ hp h => h.step hw hA hst hp)
    · cases m
      · exact ⟨hA b h4.1, h4.2⟩
      · exact ⟨h4.1, fun h' => (hAn b h').elim (fun h5 => h4.2 h5) (fun h5 => by have := heap_lt h2; omega)⟩
  | arr m s rows =>
    obtain ⟨h0, hl, h⟩ := h
    refine ⟨h0, hl, ?_⟩
    rcases h with ⟨h1, h2⟩ | ⟨b, xs, e, h1, h2, h3, h4, h5⟩
    · exact .inl ⟨ht.trans h1, h2⟩
    · refine .inr ⟨b, xs, e, ht.trans h1, (hb b (by simp) h1 (heap_lt h2)).trans h2, h3, ?_, mm m b (heap_lt h2) h5⟩
      refine PAt.of_get fun i v hi => ?_
      obtain ⟨x, hx, hr⟩ := h4.get i v hi
      refine ⟨x, ?_, hr.mono hA hst⟩
      simp only [World.cell?, (hb b (by simp) h1 (heap_lt h2)).trans h2]
      simpa only [World.cell?, h2] using hx
  | map m es =>
    obtain ⟨b, ces, clock, h1, h2, h3, h4⟩ := h
    exact ⟨b, ces, clock, ht.trans h1, (hb b (by simp) h1 (heap_lt h2)).trans h2, Rel.mono hA hst h3, mm m b (heap_lt h2) h4⟩
theorem Marks.step {N : Nat} {A A' : Nat → Prop} {w w' : World} (hw : KeepD w w') (hAn : ∀ b, A' b → A b ∨ w.heap.size ≤ b) :
    ∀ {ds : List Deferred}, Marks N A w ds → Marks N A' w' ds
  | [], _ => trivial
  | _ :: _, ⟨⟨r, h1, h2, h3, h4, h6⟩, ht⟩ =>
    ⟨⟨r, h1, h2, fun h => (hAn r h).elim (fun h5 => h3 h5) (fun h5 => by have := heap_lt h4; omega), hw r _ h4, h6⟩, ht.step hw hAn⟩
theorem SimAt.world {G : Ground} {s : AS} {a : Act} {w w' : World} {A A' : Nat → Prop} {τ : Tau} {B : Nat → Prop} (h : SimAt G s a w A τ) (hw : WStep B w w')
    (hA : ∀ b, A b → A' b) (hAn : ∀ b, A' b → A b ∨ (w.heap.size ≤ b ∧ b < w'.heap.size)) (hB : ∀ b, B b → ¬ A b ∧ G.M b)
    (hBo : ∀ t b, lo s.σ t ≠ .none → τ t = some b → ¬ B b) (hd : KeepD w w') : SimAt G s a w' A' τ := by
  have hst : Still A w w' := hw.still h.alt (fun b hb hB' => (hB b hB').1 hb)
  have hAn' : ∀ b, A' b → A b ∨ w.heap.size ≤ b := fun b hb => (hAn b hb).imp id And.left
  refine ⟨?_, fun b hb => hA b (h.a0 b hb), fun b hb => ?_, fun b hb => ?_, h.size, fun i => (h.env i).step hw hA hst (fun _ _ => rfl), fun t => ?_, h.sep, ?_, h.marks.step hd hAn'⟩
  · refine ⟨hw.os.trans h.below.os, hw.tape.trans h.below.tape, hw.output.trans h.below.output, Nat.le_trans h.below.size hw.size, fun k hk hno => ?_⟩
    rw [hw.same k (Nat.lt_of_lt_of_le hk h.below.size) (fun hB' => by rcases (hB k hB').2 with h1 | h1 <;> first | omega | exact hno h1)]
    exact h.below.block k hk hno
  · rcases hAn b hb with h1 | h1
    · exact h.a1 b h1
    · have := h.below.size; exact .inr (.inl (Nat.le_trans this h1.1))
  · rcases hAn b hb with h1 | h1
    · exact Nat.lt_of_lt_of_le (h.alt b h1) hw.size
    · exact h1.2
  · exact (h.obj t).step hw hA hst hAn' (fun b hn hb hlt => hw.same b hlt (hBo t b hn hb)) rfl (fun _ _ => rfl)
  · exact h.ex.mono fun _ _ hv => hv.step hw hA hst (fun _ _ => rfl)
theorem lk_put (e : List (Nat × AV)) (d : Nat) (v : AV) (i : Nat) : lk ((d, v) :: e) i = if i = d then v else lk e i := rfl
theorem lo_put (e : List (Nat × AO)) (d : Nat) (v : AO) (i : Nat) : lo ((d, v) :: e) i = if i = d then v else lo e i := rfl
theorem SimAt.put {G : Ground} {s : AS} {a : Act} {w : World} {A : Nat → Prop} {τ : Tau} (h : SimAt G s a w A τ) {d : Nat} (hd : d < G.nt) {v : AV} {x : Value}
    (hv : VRel A τ w v x) : SimAt G { s with env := (d, v) :: s.env } (a.put (some d) x) w A τ := by
  refine ⟨h.below, h.a0, h.a1, h.alt, by simp [Act.put, h.size], fun i => ?_, h.obj, h.sep, h.ex, h.marks⟩
  rw [lk_put]
  by_cases hi : i = d
  · subst hi
    simp only [if_true, Act.put]
    have : (a.tmps.setIfInBounds i x).getD i undef = x := by
      simp [Array.getD_eq_getD_getElem?, h.size, hd]
    rw [this]; exact hv
  · rw [if_neg hi]
    have : (a.put (some d) x).tmps.getD i undef = a.tmps.getD i undef := by
      simp [Act.put, Array.getD_eq_getD_getElem?, Array.getElem?_setIfInBounds_ne (Ne.symm hi)]
    rw [this]; exact h.env i
end Go.AM

