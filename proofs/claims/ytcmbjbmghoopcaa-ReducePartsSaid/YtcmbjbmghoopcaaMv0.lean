import Derived.ScopeJumps
import Derived.RangeFuncWrites
import Derived.RangeFuncLeaves
import Derived.Below
import Derived.KernelRfl
import Derived.Laws.Sem
import Derived.Laws.Entries
import Derived.Laws.Cells
import Derived.Laws.Externs
import Derived.Lib.Overlaps
import Derived.IntWalk
set_option linter.unusedVariables false
set_option linter.unusedSimpArgs false
namespace Go.AM
open Go.RowKit (Below)
inductive All2 {α β : Type} (R : α → β → Prop) : List α → List β → Prop
  | nil : All2 R [] []
  | cons {a b az bs} (h : R a b) (t : All2 R az bs) : All2 R (a :: az) (b :: bs)
theorem All2.mono {α β : Type} {R S : α → β → Prop} (h : ∀ a b, R a b → S a b) {az : List α} {bs : List β} (k : All2 R az bs) : All2 S az bs := by
  induction k with
  | nil => exact .nil
  | cons x _ ih => exact .cons (h _ _ x) ih
theorem All2.length {α β : Type} {R : α → β → Prop} {az : List α} {bs : List β} (k : All2 R az bs) : az.length = bs.length := by
  induction k with
  | nil => rfl
  | cons _ _ ih => simp [ih]
theorem All2.get {α β : Type} {R : α → β → Prop} {az : List α} {bs : List β} (k : All2 R az bs) : ∀ (i : Nat) (a : α), az[i]? = some a → ∃ b, bs[i]? = some b ∧ R a b := by
  induction k with
  | nil => intro i a h; simp at h
  | cons x _ ih =>
    intro i a h
    cases i with
    | zero => simp at h; subst h; exact ⟨_, rfl, x⟩
    | succ i => simpa using ih i a (by simpa using h)
theorem All2.of_get {α β : Type} {R : α → β → Prop} : ∀ {az : List α} {bs : List β}, az.length = bs.length → (∀ (i : Nat) a b, az[i]? = some a → bs[i]? = some b → R a b) → All2 R az bs
  | [], [], _, _ => .nil
  | [], _ :: _, h, _ => by simp at h
  | _ :: _, [], h, _ => by simp at h
  | a :: az, b :: bs, h, k => .cons (k 0 a b rfl rfl) (All2.of_get (by simpa using h) (fun i x y hx hy => k (i + 1) x y (by simpa using hx) (by simpa using hy)))
theorem All2.append {α β : Type} {R : α → β → Prop} {az az' : List α} {bs bs' : List β} (h : All2 R az bs) (k : All2 R az' bs') : All2 R (az ++ az') (bs ++ bs') := by
  induction h with
  | nil => exact k
  | cons x _ ih => exact .cons x ih
theorem All2.take {α β : Type} {R : α → β → Prop} {az : List α} {bs : List β} (h : All2 R az bs) (n : Nat) : All2 R (az.take n) (bs.take n) := by
  induction h generalizing n with
  | nil => simpa using All2.nil
  | cons x _ ih => cases n with
    | zero => exact .nil
    | succ n => exact .cons x (ih n)
theorem All2.drop {α β : Type} {R : α → β → Prop} {az : List α} {bs : List β} (h : All2 R az bs) (n : Nat) : All2 R (az.drop n) (bs.drop n) := by
  induction h generalizing n with
  | nil => simpa using All2.nil
  | cons x t ih => cases n with
    | zero => exact .cons x t
    | succ n => exact ih n
theorem All2.set {α β : Type} {R : α → β → Prop} {az : List α} {bs : List β} (h : All2 R az bs) (n : Nat) {a : α} {b : β} (hab : R a b) : All2 R (az.set n a) (bs.set n b) := by
  induction h generalizing n with
  | nil => simpa using All2.nil
  | cons x t ih => cases n with
    | zero => exact .cons hab t
    | succ n => exact .cons x (ih n)
def cell1 : Value → Bool
  | .agg _ | .tuple _ => false
  | _ => true
inductive PV where
  | top
  | int (k : IntKind) (n : Int)
  | bool (b : Bool)
  | str (s : ByteArray)
  | nilF
  | nilI
  | nilP
  | sl (rows : List (List PV))
  | fn (f : FuncId) (first caps : List PV)
  | box (cells : List PV)
  | map (es : List (Int × Bool × List PV))
  | ifc (t : TypeId) (c : PV)
  | ifcA (t : TypeId) (cs : List PV)
inductive J where
  | p (v : PV) (x : Value)
  | ps (vs : List PV) (xs : List Value)
  | at_ (vs : List PV) (b off : Nat)
  | en (es : List (Int × Bool × List PV)) (xs : List MapEntry)
def MaxN : Nat := 2 ^ 47
inductive Rel (A : Nat → Prop) (w : World) : J → Prop
  | top (x : Value) (h : cell1 x = true) : Rel A w (.p .top x)
  | int (k : IntKind) (n : Int) : Rel A w (.p (.int k n) (.int k n))
  | bool (b : Bool) : Rel A w (.p (.bool b) (.bool b))
  | str (s : ByteArray) : Rel A w (.p (.str s) (.string s))
  | nilF : Rel A w (.p .nilF .nilFunc)
  | nilI : Rel A w (.p .nilI .nilIface)
  | nilP : Rel A w (.p .nilP (.pointer none))
  | nil (a : Option Addr) (cap : Nat) : Rel A w (.p (.sl []) (.slice a 0 cap))
  | sl (rows : List (List PV)) (b off cap s : Nat) (hA : A b) (hs : ∀ r ∈ rows, r.length = s) (hl : rows.length ≤ MaxN) (hc : rows.length ≤ cap)
      (h : Rel A w (.at_ rows.flatten b off)) : Rel A w (.p (.sl rows) (.slice (some ⟨b, off, none⟩) rows.length cap))
  | fn (f : FuncId) (first caps : List PV) (vf vc : List Value) (h1 : Rel A w (.ps first vf)) (h2 : Rel A w (.ps caps vc)) :
      Rel A w (.p (.fn f first caps) (.func (.func f) ⟨vf⟩ ⟨vc⟩))
  | box (cells : List PV) (b off : Nat) (hA : A b) (h : Rel A w (.at_ cells b off)) : Rel A w (.p (.box cells) (.pointer (some ⟨b, off, none⟩)))
  | map (es : List (Int × Bool × List PV)) (b : Nat) (ces : Array MapEntry) (clock : Nat) (hA : A b) (hb : w.heap[b]? = some (.map ces clock))
      (h : Rel A w (.en es ces.toList)) : Rel A w (.p (.map es) (.map (some b)))
  | ifc (t : TypeId) (c : PV) (x : Value) (h : Rel A w (.p c x)) : Rel A w (.p (.ifc t c) (.iface t x))
  | ifcA (t : TypeId) (cs : List PV) (xs : List Value) (h : Rel A w (.ps cs xs)) : Rel A w (.p (.ifcA t cs) (.iface t (.agg ⟨xs⟩)))
  | psNil : Rel A w (.ps [] [])
  | psCons (c : PV) (x : Value) (cs : List PV) (xs : List Value) (h : Rel A w (.p c x)) (t : Rel A w (.ps cs xs)) : Rel A w (.ps (c :: cs) (x :: xs))
  | atNil (b off : Nat) : Rel A w (.at_ [] b off)
  | atCons (c : PV) (cs : List PV) (b off : Nat) (x : Value) (hx : w.cell? ⟨b, off, none⟩ = some x) (h : Rel A w (.p c x)) (t : Rel A w (.at_ cs b (off + 1))) :
      Rel A w (.at_ (c :: cs) b off)
  | enNil : Rel A w (.en [] [])
  | enOne (k : Int) (c : PV) (x : Value) (born : Nat) (es : List (Int × Bool × List PV)) (xs : List MapEntry) (h : Rel A w (.p c x)) (t : Rel A w (.en es xs)) :
      Rel A w (.en ((k, false, [c]) :: es) (⟨.int .i64 k, x, born⟩ :: xs))
  | enAgg (k : Int) (cs : List PV) (vs : List Value) (born : Nat) (es : List (Int × Bool × List PV)) (xs : List MapEntry) (h : Rel A w (.ps cs vs)) (t : Rel A w (.en es xs)) :
      Rel A w (.en ((k, true, cs) :: es) (⟨.int .i64 k, .agg ⟨vs⟩, born⟩ :: xs))
def Still (A : Nat → Prop) (w w' : World) : Prop := ∀ b, A b → w'.heap[b]? = w.heap[b]?
theorem Still.cell {A : Nat → Prop} {w w' : World} (h : Still A w w') {b : Nat} (hb : A b) (off : Nat) : w'.cell? ⟨b, off, none⟩ = w.cell? ⟨b, off, none⟩ := by
  simp only [World.cell?, h b hb]
theorem Rel.mono {A A' : Nat → Prop} {w w' : World} (hA : ∀ b, A b → A' b) (hw : Still A w w') {j : J} (h : Rel A w j) :
    match j with
    | .at_ vs b off => A b → Rel A' w' (.at_ vs b off)
    | j => Rel A' w' j := by
  induction h with
  | top x h => exact .top x h
  | int k n => exact .int k n
  | bool b => exact .bool b
  | str s => exact .str s
  | nilF => exact .nilF
  | nilI => exact .nilI
  | nilP => exact .nilP
  | nil a cap => exact .nil a cap
  | sl rows b off cap s hb hs hl hc h ih => exact .sl rows b off cap s (hA b hb) hs hl hc (ih hb)
  | fn f first caps vf vc h1 h2 ih1 ih2 => exact .fn f first caps vf vc ih1 ih2
  | box cells b off hb h ih => exact .box cells b off (hA b hb) (ih hb)
  | map es b ces clock hb he h ih => exact .map es b ces clock (hA b hb) ((hw b hb).trans he) ih
  | ifc t c x h ih => exact .ifc t c x ih
  | ifcA t cs xs h ih => exact .ifcA t cs xs ih
  | psNil => exact .psNil
  | psCons c x cs xs h t ih1 ih2 => exact .psCons c x cs xs ih1 ih2
  | atNil b off => exact fun _ => .atNil b off
  | atCons c cs b off x hx h t ih1 ih2 => exact fun hb => .atCons c cs b off x (by rw [hw.cell hb]; exact hx) ih1 (ih2 hb)
  | enNil => exact .enNil
  | enOne k c x born es xs h t ih1 ih2 => exact .enOne k c x born es xs ih1 ih2
  | enAgg k cs vs born es xs h t ih1 ih2 => exact .enAgg k cs vs born es xs ih1 ih2
abbrev PRel (A : Nat → Prop) (w : World) (v : PV) (x : Value) : Prop := Rel A w (.p v x)
abbrev PRels (A : Nat → Prop) (w : World) (vs : List PV) (xs : List Value) : Prop := Rel A w (.ps vs xs)
abbrev PAt (A : Nat → Prop) (w : World) (vs : List PV) (b off : Nat) : Prop := Rel A w (.at_ vs b off)
theorem PRel.mono {A A' : Nat → Prop} {w w' : World} {v : PV} {x : Value} (h : PRel A w v x) (hA : ∀ b, A b → A' b) (hw : Still A w w') : PRel A' w' v x := Rel.mono hA hw h
theorem PRels.mono {A A' : Nat → Prop} {w w' : World} {v : List PV} {x : List Value} (h : PRels A w v x) (hA : ∀ b, A b → A' b) (hw : Still A w w') : PRels A' w' v x := Rel.mono hA hw h
theorem PAt.mono {A A' : Nat → Prop} {w w' : World} {v : List PV} {b off : Nat} (h : PAt A w v b off) (hb : A b) (hA : ∀ b, A b → A' b) (hw : Still A w w') : PAt A' w' v b off := Rel.mono hA hw h hb
theorem PRel.cell1 {A : Nat → Prop} {w : World} {v : PV} {x : Value} (h : PRel A w v x) : cell1 x = true := by
  cases h <;> first | rfl | assumption
theorem PRels.all2 {A : Nat → Prop} {w : World} {vs : List PV} {xs : List Value} : PRels A w vs xs ↔ All2 (PRel A w) vs xs := by
  constructor
  · intro h
    induction vs generalizing xs with
    | nil => cases h; exact .nil
    | cons v vs ih => cases h with | psCons _ _ _ _ h t => exact .cons h (ih t)
  · intro h
    induction h with
    | nil => exact .psNil
    | cons h _ ih => exact .psCons _ _ _ _ h ih
theorem PAt.get {A : Nat → Prop} {w : World} : ∀ {vs : List PV} {b off : Nat}, PAt A w vs b off → ∀ (i : Nat) (v : PV), vs[i]? = some v → ∃ x, w.cell? ⟨b, off + i, none⟩ = some x ∧ PRel A w v x
  | _ :: _, b, off, .atCons c cs _ _ x hx h t, i, v, hi => by
    cases i with
    | zero => simp at hi; subst hi; exact ⟨x, hx, h⟩
    | succ i =>
      obtain ⟨y, hy, hr⟩ := PAt.get t i v (by simpa using hi)
      exact ⟨y, by rw [← hy]; congr 2; omega, hr⟩
  | [], _, _, _, i, v, hi => by simp at hi
theorem PAt.of_get {A : Nat → Prop} {w : World} : ∀ {vs : List PV} {b off : Nat}, (∀ (i : Nat) (v : PV), vs[i]? = some v → ∃ x, w.cell? ⟨b, off + i, none⟩ = some x ∧ PRel A w v x) → PAt A w vs b off
  | [], b, off, _ => .atNil b off
  | v :: vs, b, off, h => by
    obtain ⟨x, hx, hr⟩ := h 0 v rfl
    exact .atCons v vs b off x hx hr (PAt.of_get fun i u hu => by
      obtain ⟨y, hy, hs⟩ := h (i + 1) u (by simpa using hu)
      exact ⟨y, by rw [← hy]; congr 2; omega, hs⟩)
theorem PAt.append {A : Nat → Prop} {w : World} {vs us : List PV} {b off : Nat} (h : PAt A w vs b off) (k : PAt A w us b (off + vs.length)) : PAt A w (vs ++ us) b off := by
  refine PAt.of_get fun i v hi => ?_
  rw [List.getElem?_append] at hi
  split at hi
  · exact h.get i v hi
  · obtain ⟨x, hx, hr⟩ := k.get _ v hi
    exact ⟨x, by rw [← hx]; congr 2; omega, hr⟩
theorem PAt.part {A : Nat → Prop} {w : World} {vs : List PV} {b off : Nat} (h : PAt A w vs b off) (m n : Nat) : PAt A w ((vs.drop m).take n) b (off + m) := by
  refine PAt.of_get fun i v hi => ?_
  have h1 : (vs.drop m)[i]? = some v := by
    rw [List.getElem?_take] at hi
    split at hi
    · exact hi
    · simp at hi
  rw [List.getElem?_drop] at h1
  obtain ⟨x, hx, hr⟩ := h.get _ v h1
  exact ⟨x, by rw [← hx]; congr 2; omega, hr⟩
end Go.AM

namespace Go.AM
open Go.RowKit (Below)
inductive AC where
  | p (v : PV)
  | nils
  | ptr (t i s off : Nat)
  | msl (t o s len : Nat) (cap : Option Nat)
  | mmap (t : Nat)
  | mfn (f : FuncId) (first caps : List AC)
  | raw (x : Value)
inductive AV where
  | one (c : AC)
  | agg (cs : List AC)
  | tup (xs : List AV)
  | top
  | und
inductive AO where
  | none
  | cells (m : Bool) (cs : List AC)
  | arr (m : Bool) (s : Nat) (rows : List (List PV))
  | map (m : Bool) (es : List (Int × Bool × List PV))
def AO.mu : AO → Bool
  | .none => false
  | .cells m _ | .arr m _ _ | .map m _ => m
abbrev Tau := Nat → Option Nat
inductive C0 (A : Nat → Prop) (τ : Tau) (w : World) : AC → Value → Prop
  | p (v : PV) (x : Value) (h : PRel A w v x) : C0 A τ w (.p v) x
  | nils : C0 A τ w .nils (.slice none 0 0)
  | ptr (t i s off b : Nat) (h : τ t = some b) : C0 A τ w (.ptr t i s off) (.pointer (some ⟨b, i * s + off, none⟩))
  | mslN (t o s : Nat) (cap : Option Nat) (a : Option Addr) (h : τ t = none) (hc : ∀ n, cap = some n → n = 0) : C0 A τ w (.msl t o s 0 cap) (.slice a 0 0)
  | msl (t o s len b c : Nat) (cap : Option Nat) (h : τ t = some b) (hc : ∀ n, cap = some n → c = n) (hl : len ≤ c)
      (hr : ∃ cs e, w.heap[b]? = some (.cells cs e (0, 0)) ∧ (o + c) * s ≤ cs.size ∧ (cap = none → (o + c) * s = cs.size)) : C0 A τ w (.msl t o s len cap) (.slice (some ⟨b, o * s, none⟩) len c)
  | mmap (t b : Nat) (h : τ t = some b) : C0 A τ w (.mmap t) (.map (some b))
  | raw (x : Value) (h : cell1 x = true) : C0 A τ w (.raw x) x
inductive CRel (A : Nat → Prop) (τ : Tau) (w : World) : AC → Value → Prop
  | c0 {c : AC} {x : Value} (h : C0 A τ w c x) : CRel A τ w c x
  | mfn (f : FuncId) (first caps : List AC) (vf vc : List Value) (h1 : All2 (C0 A τ w) first vf) (h2 : All2 (C0 A τ w) caps vc) :
      CRel A τ w (.mfn f first caps) (.func (.func f) ⟨vf⟩ ⟨vc⟩)
inductive V1 (A : Nat → Prop) (τ : Tau) (w : World) : AV → Value → Prop
  | one {c : AC} {x : Value} (h : CRel A τ w c x) : V1 A τ w (.one c) x
  | agg {cs : List AC} {xs : List Value} (h : All2 (CRel A τ w) cs xs) : V1 A τ w (.agg cs) (.agg ⟨xs⟩)
  | top (x : Value) : V1 A τ w .top x
  | und : V1 A τ w .und undef
inductive VRel (A : Nat → Prop) (τ : Tau) (w : World) : AV → Value → Prop
  | v1 {v : AV} {x : Value} (h : V1 A τ w v x) : VRel A τ w v x
  | tup {vs : List AV} {xs : List Value} (h : All2 (V1 A τ w) vs xs) : VRel A τ w (.tup vs) (.tuple ⟨xs⟩)
theorem C0.cell1 {A : Nat → Prop} {τ : Tau} {w : World} {c : AC} {x : Value} (h : C0 A τ w c x) : cell1 x = true := by
  cases h <;> first | rfl | assumption | exact PRel.cell1 (by assumption)
theorem CRel.cell1 {A : Nat → Prop} {τ : Tau} {w : World} {c : AC} {x : Value} (h : CRel A τ w c x) : cell1 x = true := by
  cases h with
  | c0 h => exact h.cell1
  | mfn => rfl
def ORel (M : Nat → Prop) (A : Nat → Prop) (τ : Tau) (w : World) (t : Nat) : AO → Prop
  | .none => True
  | .cells m cs => ∃ b xs e, τ t = some b ∧ w.heap[b]? = some (.cells ⟨xs⟩ e (0, 0)) ∧ All2 (CRel A τ w) cs xs ∧
      (if m then M b ∧ ¬ A b else A b ∧ ∀ c ∈ cs, ∃ v, c = .p v)
  | .arr m s rows => (∀ r ∈ rows, r.length = s) ∧ rows.length ≤ MaxN ∧
      ((τ t = none ∧ rows = []) ∨
      ∃ b xs e, τ t = some b ∧ w.heap[b]? = some (.cells xs e (0, 0)) ∧ rows.length * s ≤ xs.size ∧ PAt A w rows.flatten b 0 ∧
      (if m then M b ∧ ¬ A b else A b))
  | .map m es => ∃ b ces clock, τ t = some b ∧ w.heap[b]? = some (.map ces clock) ∧ Rel A w (.en es ces.toList) ∧ (if m then M b ∧ ¬ A b else A b)
def lk (e : List (Nat × AV)) (i : Nat) : AV :=
  match e with
  | [] => .top
  | (j, v) :: r => if i = j then v else lk r i
def lo (e : List (Nat × AO)) (i : Nat) : AO :=
  match e with
  | [] => .none
  | (j, v) :: r => if i = j then v else lo r i
structure AS where
  env : List (Nat × AV)
  σ : List (Nat × AO)
  ex : List AV := []
structure Ground where
  P : Program
  w0 : World
  A0 : Nat → Prop
  nt : Nat
  exv : List Value := []
  ow : Nat → Prop := fun _ => False
def Ground.N (G : Ground) : Nat := G.w0.heap.size
def Ground.M (G : Ground) (b : Nat) : Prop := G.N ≤ b ∨ G.ow b
structure Ground.Bel (G : Ground) (w : World) : Prop where
  os : w.os = G.w0.os
  tape : w.tape = G.w0.tape
  output : w.output = G.w0.output
  size : G.N ≤ w.heap.size
  block : ∀ k, k < G.N → ¬ G.ow k → w.heap[k]? = G.w0.heap[k]?
theorem Ground.Bel.plain {G : Ground} {w : World} (h : G.Bel w) (hno : ∀ k, ¬ G.ow k) : Below G.N G.w0 w := ⟨h.os, h.tape, h.output, h.size, fun k hk => h.block k hk (hno k)⟩
def Marks (N : Nat) (A : Nat → Prop) (w : World) : List Deferred → Prop
  | [] => True
  | d :: ds => (∃ r, d = { target := .collected r, args := #[] } ∧ N ≤ r ∧ ¬ A r ∧ w.heap[r]? = some (.deferred (some [])) ∧ d ∉ ds) ∧ Marks N A w ds
structure SimAt (G : Ground) (s : AS) (a : Act) (w : World) (A : Nat → Prop) (τ : Tau) : Prop where
  below : G.Bel w
  a0 : ∀ b, G.A0 b → A b
  a1 : ∀ b, A b → G.A0 b ∨ G.M b
  alt : ∀ b, A b → b < w.heap.size
  size : a.tmps.size = G.nt
  env : ∀ i, VRel A τ w (lk s.env i) (a.tmps.getD i undef)
  obj : ∀ t, ORel G.M A τ w t (lo s.σ t)
  sep : ∀ t t' b, lo s.σ t ≠ .none → lo s.σ t' ≠ .none → t ≠ t' → (lo s.σ t).mu = true → τ t = some b → τ t' ≠ some b
  ex : All2 (VRel A τ w) s.ex G.exv
  marks : Marks G.N A w a.defers
structure WStep (B : Nat → Prop) (w w' : World) : Prop where
  os : w'.os = w.os
  tape : w'.tape = w.tape
  output : w'.output = w.output
  size : w.heap.size ≤ w'.heap.size
  same : ∀ b, b < w.heap.size → ¬ B b → w'.heap[b]? = w.heap[b]?
  cells : ∀ (b : Nat) (cs : Array Value) (e : TypeId), w.heap[b]? = some (Obj.cells cs e (0, 0)) → ∃ cs' : Array Value, w'.heap[b]? = some (Obj.cells cs' e (0, 0)) ∧ cs'.size = cs.size
theorem heap_lt {w : World} {b : Nat} {o : Obj} (h : w.heap[b]? = some o) : b < w.heap.size := (Array.getElem?_eq_some_iff.1 h).1
theorem WStep.still {B A : Nat → Prop} {w w' : World} (h : WStep B w w') (hlt : ∀ b, A b → b < w.heap.size) (hB : ∀ b, A b → ¬ B b) : Still A w w' :=
  fun b hb => h.same b (hlt b hb) (hB b hb)
theorem WStep.refl (w : World) : WStep (fun _ => False) w w :=
  ⟨rfl, rfl, rfl, Nat.le_refl _, fun _ _ _ => rfl, fun _ cs _ h => ⟨cs, h, rfl⟩⟩
theorem WStep.drew (w : World) (n : Nat) : WStep (fun _ => False) w { w with drawn := n } :=
  ⟨rfl, rfl, rfl, Nat.le_refl _, fun _ _ _ => rfl, fun _ cs _ h => ⟨cs, h, rfl⟩⟩
theorem WStep.push (w : World) (o : Obj) : WStep (fun _ => False) w { w with heap := w.heap.push o } := by
  have key : ∀ b, b < w.heap.size → (w.heap.push o)[b]? = w.heap[b]? := fun b hb => by rw [Array.getElem?_push, if_neg (by omega)]
  exact ⟨rfl, rfl, rfl, by simp, fun b hb _ => key b hb, fun b cs e h => ⟨cs, (key b (heap_lt h)).trans h, rfl⟩⟩
theorem WStep.below {w w' : World} (h : Below w.heap.size w w') : WStep (fun _ => False) w w' :=
  ⟨h.os, h.tape, h.output, h.size, fun b hb _ => h.block b hb, fun b cs _ hc => ⟨cs, (h.block b (heap_lt hc)).trans hc, rfl⟩⟩
theorem WStep.trans {B C : Nat → Prop} {a b c : World} (h : WStep B a b) (k : WStep C b c) : WStep (fun x => B x ∨ C x) a c := by
  refine ⟨k.os.trans h.os, k.tape.trans h.tape, k.output.trans h.output, Nat.le_trans h.size k.size, fun i hi hn => ?_, fun i cs e hc => ?_⟩
  · exact (k.same i (Nat.lt_of_lt_of_le hi h.size) (fun hh => hn (.inr hh))).trans (h.same i hi (fun hh => hn (.inl hh)))
  · obtain ⟨cs1, h1, s1⟩ := h.cells i cs e hc
    obtain ⟨cs2, h2, s2⟩ := k.cells i cs1 e h1
    exact ⟨cs2, h2, s2.trans s1⟩
theorem WStep.weak {B C : Nat → Prop} {a b : World} (h : WStep B a b) (hBC : ∀ x, B x → C x) : WStep C a b :=
  ⟨h.os, h.tape, h.output, h.size, fun i hi hn => h.same i hi (fun hh => hn (hBC i hh)), h.cells⟩
abbrev KeepD (w w' : World) : Prop := ∀ (b : Nat) ds, w.heap[b]? = some (Obj.deferred ds) → w'.heap[b]? = some (Obj.deferred ds)
theorem WStep.dfr {B : Nat → Prop} {w w' : World} (h : WStep B w w') (hB : ∀ b, B b → ∀ ds, w.heap[b]? ≠ some (Obj.deferred ds)) : KeepD w w' :=
  fun b ds hd => (h.same b (heap_lt hd) (fun hb => hB b hb ds hd)).trans hd
theorem WStep.dfr0 {w w' : World} (h : WStep (fun _ => False) w w') : KeepD w w' := h.dfr fun _ hf => hf.elim
def AC.has (t : Nat) : AC → Bool
  | .ptr u _ _ _ => u == t
  | .msl u _ _ _ _ => u == t
  | .mmap u => u == t
  | .mfn _ f c => hasL t f || hasL t c
  | _ => false
where hasL (t : Nat) : List AC → Bool
  | [] => false
  | c :: cs => AC.has t c || hasL t cs
def AV.has (t : Nat) : AV → Bool
  | .one c => c.has t
  | .agg cs => AC.has.hasL t cs
  | .tup xs => hasV t xs
  | .top => false
  | .und => false
where hasV (t : Nat) : List AV → Bool
  | [] => false
  | c :: cs => AV.has t c || hasV t cs
section move
variable {A A' : Nat → Prop} {τ τ' : Tau} {w w' : World} {B : Nat → Prop}
theorem C0.step (hw : WStep B w w') (hA : ∀ b, A b → A' b) (hst : Still A w w') {c : AC} {x : Value} (h : C0 A τ w c x)
    (hτ : ∀ t, c.has t = true → τ' t = τ t) : C0 A' τ' w' c x := by
  cases h with
  | p v x h => exact .p v x (h.mono hA hst)
  | nils => exact .nils
  | ptr t i s off b h => exact .ptr t i s off b ((hτ t (by simp [AC.has])).trans h)
  | mslN t o s cap a h hc => exact .mslN t o s cap a ((hτ t (by simp [AC.has])).trans h) hc
  | msl t o s len b c cap h hc hl hr =>
    obtain ⟨cs, e, h1, h2, h2'⟩ := hr
    obtain ⟨cs', h3, h4⟩ := hw.cells b cs e h1
    exact .msl t o s len b c cap ((hτ t (by simp [AC.has])).trans h) hc hl ⟨cs', e, h3, by omega, fun hn => by have := h2' hn; omega⟩
  | mmap t b h => exact .mmap t b ((hτ t (by simp [AC.has])).trans h)
  | raw x h => exact .raw x h
theorem All2.stepL {α β : Type} {R S : α → β → Prop} {p : α → Prop} {az : List α} {bs : List β} (h : All2 R az bs) (hp : ∀ a ∈ az, p a)
    (k : ∀ a b, p a → R a b → S a b) : All2 S az bs := by
  induction h with
  | nil => exact .nil
  | cons x _ ih => exact .cons (k _ _ (hp _ (by simp)) x) (ih fun a ha => hp a (by simp [ha]))
theorem hasL_mem {t : Nat} {cs : List AC} {c : AC} (hc : c ∈ cs) (h : c.has t = true) : AC.has.hasL t cs = true := by
  induction cs with
  | nil => simp at hc
  | cons d ds ih =>
    simp only [AC.has.hasL, Bool.or_eq_true]
    rcases List.mem_cons.1 hc with rfl | hc
    · exact .inl h
    · exact .inr (ih hc)
theorem hasV_mem {t : Nat} {cs : List AV} {c : AV} (hc : c ∈ cs) (h : c.has t = true) : AV.has.hasV t cs = true := by
  induction cs with
  | nil => simp at hc
  | cons d ds ih =>
    simp only [AV.has.hasV, Bool.or_eq_true]
    rcases List.mem_cons.1 hc with rfl | hc
    · exact .inl h
    · exact .inr (ih hc)
theorem CRel.step (hw : WStep B w w') (hA : ∀ b, A b → A' b) (hst : Still A w w') {c : AC} {x : Value} (h : CRel A τ w c x)
    (hτ : ∀ t, c.has t = true → τ' t = τ t) : CRel A' τ' w' c x := by
  cases h with
  | c0 h => exact .c0 (h.step hw hA hst hτ)
  | mfn f first caps vf vc h1 h2 =>
    exact .mfn f first caps vf vc
      (h1.stepL (p := fun c => ∀ t, c.has t = true → τ' t = τ t) (fun c hc t ht => hτ t (by simp [AC.has, hasL_mem hc ht])) (fun _ _ hp h => h.step hw hA hst hp))
      (h2.stepL (p := fun c => ∀ t, c.has t = true → τ' t = τ t) (fun c hc t ht => hτ t (by simp [AC.has, hasL_mem hc ht])) (fun _ _ hp h => h.step hw hA hst hp))
theorem V1.step (hw : WStep B w w') (hA : ∀ b, A b → A' b) (hst : Still A w w') {c : AV} {x : Value} (h : V1 A τ w c x)
    (hτ : ∀ t, c.has t = true → τ' t = τ t) : V1 A' τ' w' c x := by
  cases h with
  | one h => exact .one (h.step hw hA hst hτ)
  | agg h => exact .agg (h.stepL (p := fun c => ∀ t, c.has t = true → τ' t = τ t) (fun c hc t ht => hτ t (by simp [AV.has, hasL_mem hc ht])) (fun _ _ hp h => h.step hw hA hst hp))
  | top => exact .top _
  | und => exact .und
theorem VRel.step (hw : WStep B w w') (hA : ∀ b, A b → A' b) (hst : Still A w w') {c : AV} {x : Value} (h : VRel A τ w c x)
    (hτ : ∀ t, c.has t = true → τ' t = τ t) : VRel A' τ' w' c x := by
  cases h with
  | v1 h => exact .v1 (h.step hw hA hst hτ)
  | tup h => exact .tup (h.stepL (p := fun c => ∀ t, c.has t = true → τ' t = τ t) (fun c hc t ht => hτ t (by simp [AV.has, hasV_mem hc ht])) (fun _ _ hp h => h.step hw hA hst hp))
end move
theorem ORel.step {M : Nat → Prop} {A A' : Nat → Prop} {τ τ' : Tau} {w w' : World} {B : Nat → Prop} (hw : WStep B w w') (hA : ∀ b, A b → A' b) (hst : Still A w w')
    (hAn : ∀ b, A' b → A b ∨ w.heap.size ≤ b) {t : Nat} {o : AO} (h : ORel M A τ w t o) (hb : ∀ b, o ≠ .none → τ t = some b → b < w.heap.size → w'.heap[b]? = w.heap[b]?)
    (ht : τ' t = τ t) (hτ : ∀ u, (match o with | .cells _ cs => AC.has.hasL u cs = true | _ => False) → τ' u = τ u) : ORel M A' τ' w' t o := by
  have mm : ∀ (m : Bool) b, b < w.heap.size → (if m then M b ∧ ¬ A b else A b) → (if m then M b ∧ ¬ A' b else A' b) := by
    intro m b hlt h
    cases m
    · exact hA b h
    · exact ⟨h.1, fun h' => (hAn b h').elim (fun h2 => h.2 h2) (fun h2 => by omega)⟩
  cases o with
  | none => trivial
  | cells m cs =>
    obtain ⟨b, xs, e, h1, h2, h3, h4⟩ := h
    refine ⟨b, xs, e, ht.trans h1, (hb b (by simp) h1 (heap_lt h2)).trans h2, ?_, ?_⟩
    · exact h3.stepL (p := fun c => ∀ t, c.has t = true → τ' t = τ t) (fun c hc t ht => hτ t (hasL_mem hc ht)) (fun _ _ hp h => h.step hw hA hst hp)
    · cases m
      · exact ⟨hA b h4.1, h4.2⟩
      · exact ⟨h4.1, fun h' => (hAn b h').elim (fun h5 => h4.2 h5) (fun h5 => by have := heap_lt h2; omega)⟩
  | arr m s rows =>
    obtain ⟨h0, hl, h⟩ := h
    refine ⟨h0, hl, ?_⟩
    rcases h with ⟨h1, h2⟩ | ⟨b, xs, e, h1, h2, h3, h4, h5⟩
    · exact .inl ⟨ht.trans h1, h2⟩
    · refine .inr ⟨b, xs, e, ht.trans h1, (hb b (by simp) h1 (heap_lt h2)).trans h2, h3, ?_, mm m b (heap_lt h2) h5⟩
      refine PAt.of_get fun i v hi => ?_
      obtain ⟨x, hx, hr⟩ := h4.get i v hi
      refine ⟨x, ?_, hr.mono hA hst⟩
      simp only [World.cell?, (hb b (by simp) h1 (heap_lt h2)).trans h2]
      simpa only [World.cell?, h2] using hx
  | map m es =>
    obtain ⟨b, ces, clock, h1, h2, h3, h4⟩ := h
    exact ⟨b, ces, clock, ht.trans h1, (hb b (by simp) h1 (heap_lt h2)).trans h2, Rel.mono hA hst h3, mm m b (heap_lt h2) h4⟩
theorem Marks.step {N : Nat} {A A' : Nat → Prop} {w w' : World} (hw : KeepD w w') (hAn : ∀ b, A' b → A b ∨ w.heap.size ≤ b) :
    ∀ {ds : List Deferred}, Marks N A w ds → Marks N A' w' ds
  | [], _ => trivial
  | _ :: _, ⟨⟨r, h1, h2, h3, h4, h6⟩, ht⟩ =>
    ⟨⟨r, h1, h2, fun h => (hAn r h).elim (fun h5 => h3 h5) (fun h5 => by have := heap_lt h4; omega), hw r _ h4, h6⟩, ht.step hw hAn⟩
theorem SimAt.world {G : Ground} {s : AS} {a : Act} {w w' : World} {A A' : Nat → Prop} {τ : Tau} {B : Nat → Prop} (h : SimAt G s a w A τ) (hw : WStep B w w')
    (hA : ∀ b, A b → A' b) (hAn : ∀ b, A' b → A b ∨ (w.heap.size ≤ b ∧ b < w'.heap.size)) (hB : ∀ b, B b → ¬ A b ∧ G.M b)
    (hBo : ∀ t b, lo s.σ t ≠ .none → τ t = some b → ¬ B b) (hd : KeepD w w') : SimAt G s a w' A' τ := by
  have hst : Still A w w' := hw.still h.alt (fun b hb hB' => (hB b hB').1 hb)
  have hAn' : ∀ b, A' b → A b ∨ w.heap.size ≤ b := fun b hb => (hAn b hb).imp id And.left
  refine ⟨?_, fun b hb => hA b (h.a0 b hb), fun b hb => ?_, fun b hb => ?_, h.size, fun i => (h.env i).step hw hA hst (fun _ _ => rfl), fun t => ?_, h.sep, ?_, h.marks.step hd hAn'⟩
  · refine ⟨hw.os.trans h.below.os, hw.tape.trans h.below.tape, hw.output.trans h.below.output, Nat.le_trans h.below.size hw.size, fun k hk hno => ?_⟩
    rw [hw.same k (Nat.lt_of_lt_of_le hk h.below.size) (fun hB' => by rcases (hB k hB').2 with h1 | h1 <;> first | omega | exact hno h1)]
    exact h.below.block k hk hno
  · rcases hAn b hb with h1 | h1
    · exact h.a1 b h1
    · have := h.below.size; exact .inr (.inl (Nat.le_trans this h1.1))
  · rcases hAn b hb with h1 | h1
    · exact Nat.lt_of_lt_of_le (h.alt b h1) hw.size
    · exact h1.2
  · exact (h.obj t).step hw hA hst hAn' (fun b hn hb hlt => hw.same b hlt (hBo t b hn hb)) rfl (fun _ _ => rfl)
  · exact h.ex.mono fun _ _ hv => hv.step hw hA hst (fun _ _ => rfl)
theorem lk_put (e : List (Nat × AV)) (d : Nat) (v : AV) (i : Nat) : lk ((d, v) :: e) i = if i = d then v else lk e i := rfl
theorem lo_put (e : List (Nat × AO)) (d : Nat) (v : AO) (i : Nat) : lo ((d, v) :: e) i = if i = d then v else lo e i := rfl
theorem SimAt.put {G : Ground} {s : AS} {a : Act} {w : World} {A : Nat → Prop} {τ : Tau} (h : SimAt G s a w A τ) {d : Nat} (hd : d < G.nt) {v : AV} {x : Value}
    (hv : VRel A τ w v x) : SimAt G { s with env := (d, v) :: s.env } (a.put (some d) x) w A τ := by
  refine ⟨h.below, h.a0, h.a1, h.alt, by simp [Act.put, h.size], fun i => ?_, h.obj, h.sep, h.ex, h.marks⟩
  rw [lk_put]
  by_cases hi : i = d
  · subst hi
    simp only [if_true, Act.put]
    have : (a.tmps.setIfInBounds i x).getD i undef = x := by
      simp [Array.getD_eq_getD_getElem?, h.size, hd]
    rw [this]; exact hv
  · rw [if_neg hi]
    have : (a.put (some d) x).tmps.getD i undef = a.tmps.getD i undef := by
      simp [Act.put, Array.getD_eq_getD_getElem?, Array.getElem?_setIfInBounds_ne (Ne.symm hi)]
    rw [this]; exact h.env i
end Go.AM

namespace Go.AM
open Go.RowKit (Below)
abbrev Env := List (Nat × AV)
abbrev Sto := List (Nat × AO)
inductive Opd where
  | t (i : Nat)
  | c (v : AV)
def get (e : Env) : Opd → AV
  | .t i => lk e i
  | .c v => v
def constAC : Value → Option AC
  | .bool b => some (.p (.bool b))
  | .int k n => some (.p (.int k n))
  | .string s => some (.p (.str s))
  | .slice none 0 0 => some .nils
  | .pointer none => some (.p .nilP)
  | .nilFunc => some (.p .nilF)
  | .nilIface => some (.p .nilI)
  | .map none => some (.raw (.map none))
  | .chan none => some (.raw (.chan none))
  | _ => none
def constACs : List Value → Option (List AC)
  | [] => some []
  | v :: vs => (constAC v).bind fun c => (constACs vs).map (c :: ·)
def constAV : Value → Option AV
  | .agg cs => (constACs cs.toList).map .agg
  | v => (constAC v).map .one
def opd : Operand → Option Opd
  | .tmp t => some (.t t)
  | .const v => (constAV v).map .c
  | .func f => some (.c (.one (.p (.fn f [] []))))
  | .global _ => none
def opdO : Option Operand → Option (Option Opd)
  | none => some none
  | some o => (opd o).map some
theorem constAC_sound {A : Nat → Prop} {τ : Tau} {w : World} {v : Value} {c : AC} (h : constAC v = some c) : CRel A τ w c v := by
  unfold constAC at h
  split at h <;> first | (cases h; first | exact .c0 (.p _ _ (by constructor)) | exact .c0 .nils | exact .c0 (.raw _ rfl)) | cases h
theorem constACs_sound {A : Nat → Prop} {τ : Tau} {w : World} : ∀ {vs : List Value} {cs : List AC}, constACs vs = some cs → All2 (CRel A τ w) cs vs
  | [], cs, h => by simp [constACs] at h; subst h; exact .nil
  | v :: vs, cs, h => by
    simp only [constACs] at h
    cases h1 : constAC v with
    | none => simp [h1] at h
    | some c =>
      cases h2 : constACs vs with
      | none => simp [h1, h2] at h
      | some cs' =>
        simp [h1, h2] at h
        subst h
        exact .cons (constAC_sound h1) (constACs_sound h2)
theorem constAV_sound {A : Nat → Prop} {τ : Tau} {w : World} {v : Value} {c : AV} (h : constAV v = some c) : VRel A τ w c v := by
  unfold constAV at h
  split at h
  · rename_i cs
    cases h1 : constACs cs.toList with
    | none => simp [h1] at h
    | some l => simp [h1] at h; subst h; exact .v1 (.agg (by simpa using constACs_sound h1))
  · cases h1 : constAC v with
    | none => simp [h1] at h
    | some l => simp [h1] at h; subst h; exact .v1 (.one (constAC_sound h1))
theorem opd_sound {G : Ground} {s : AS} {a : Act} {w : World} {A : Nat → Prop} {τ : Tau} (h : SimAt G s a w A τ) {o : Operand} {x : Opd} (hx : opd o = some x) :
    VRel A τ w (get s.env x) (a.eval o) := by
  cases o with
  | tmp t => simp [opd] at hx; subst hx; exact h.env t
  | const v =>
    simp only [opd] at hx
    cases h1 : constAV v with
    | none => simp [h1] at hx
    | some c => simp [h1] at hx; subst hx; exact constAV_sound h1
  | func f => simp [opd] at hx; subst hx; exact .v1 (.one (.c0 (.p _ _ (.fn f [] [] [] [] .psNil .psNil))))
  | global g => simp [opd] at hx
def opds : List Operand → Option (List Opd)
  | [] => some []
  | o :: os => (opd o).bind fun x => (opds os).map (x :: ·)
def gets (e : Env) : List Opd → List AV
  | [] => []
  | x :: xs => get e x :: gets e xs
theorem opds_sound {G : Ground} {s : AS} {a : Act} {w : World} {A : Nat → Prop} {τ : Tau} (h : SimAt G s a w A τ) :
    ∀ {os : List Operand} {xs : List Opd}, opds os = some xs → All2 (VRel A τ w) (gets s.env xs) (os.map a.eval)
  | [], xs, hx => by simp [opds] at hx; subst hx; exact .nil
  | o :: os, xs, hx => by
    simp only [opds] at hx
    cases h1 : opd o with
    | none => simp [h1] at hx
    | some x =>
      cases h2 : opds os with
      | none => simp [h1, h2] at hx
      | some xs' =>
        simp [h1, h2] at hx
        subst hx
        exact .cons (opd_sound h h1) (opds_sound h h2)
inductive QOp where
  | mov (x : Opd)
  | pick (c a b : Opd)
  | load (n : Nat) (g : Bool) (a : Opd)
  | bin (op : BinOp) (x y : Opd)
  | eqB (neg : Bool) (x y : Opd)
  | eqN (kd : Nat) (neg : Bool) (x y : Opd)
  | un (op : UnOp) (x : Opd)
  | conv (k : IntKind) (x : Opd)
  | faddr (off : Nat) (x : Opd)
  | iaddr (s : Nat) (x i : Opd)
  | iaddrA (len s : Nat) (x i : Opd)
  | extr (x : Opd) (i : Nat)
  | len (x : Opd)
  | mkF (f : FuncId) (first caps : List Opd)
  | build (z : List AC) (ps : List (Nat × Nat × Opd))
  | nck (x : Opd)
  | slc (s : Nat) (x : Opd) (l h m : Option Opd)
  | slcA (n s : Nat) (x : Opd) (l h m : Option Opd)
  | mm (g : Bool) (x y : Opd)
  | sidx (x i : Opd)
  | cap (x : Opd)
  | mlen (x : Opd)
  | slen (x : Opd)
  | mget (z : AV) (ok : Bool) (x k : Opd)
  | carry (sub : Bool) (x y c : Opd)
  | ovl (s : Nat) (x y : Opd)
def pint (k : IntKind) (n : Int) : AV := .one (.p (.int k n))
def pbool (b : Bool) : AV := .one (.p (.bool b))
def ldP (n : Nat) (g : Bool) (cells : List PV) : Option AV :=
  if g then (if n ≤ cells.length then some (.agg ((cells.take n).map .p)) else none)
  else match cells with
    | c :: _ => some (.one (.p c))
    | [] => none
def ldC (n : Nat) (g : Bool) (cells : List AC) : Option AV :=
  if g then (if n ≤ cells.length then some (.agg (cells.take n)) else none)
  else match cells with
    | c :: _ => some (.one c)
    | [] => none
def ldO (n : Nat) (g : Bool) (i s off : Nat) : AO → Option AV
  | .cells _ cs => if i = 0 then ldC n g (cs.drop off) else none
  | .arr _ s' rows => if s' = s then
      (if g && i == 0 && off == 0 && n != s then (if n = rows.flatten.length then ldP n g rows.flatten else none)
       else match rows[i]? with
        | some r => ldP n g (r.drop off)
        | none => none) else none
  | _ => none
def andZ (k : IntKind) (a b : Int) : Int := k.wrap (BitVec.ofInt k.bits a &&& BitVec.ofInt k.bits b).toNat
def orZ (k : IntKind) (a b : Int) : Int := k.wrap (BitVec.ofInt k.bits a ||| BitVec.ofInt k.bits b).toNat
def xorZ (k : IntKind) (a b : Int) : Int := k.wrap (BitVec.ofInt k.bits a ^^^ BitVec.ofInt k.bits b).toNat
def shlZ (k : IntKind) (a b : Int) : Int := k.wrap (a * 2 ^ (min b.toNat k.bits))
def shrZ (k : IntKind) (a b : Int) : Int := a.fdiv (2 ^ (min b.toNat k.bits))
def evBin (op : BinOp) (k : IntKind) (a b : Int) : Option AV :=
  match op with
  | .add => some (pint k (k.wrap (a + b)))
  | .sub => some (pint k (k.wrap (a - b)))
  | .mul => some (pint k (k.wrap (a * b)))
  | .quo => if b = 0 then none else some (pint k (k.wrap (a.tdiv b)))
  | .rem => if b = 0 then none else some (pint k (a.tmod b))
  | .and => some (pint k (andZ k a b))
  | .or => some (pint k (orZ k a b))
  | .xor => some (pint k (xorZ k a b))
  | .eql => some (pbool (a == b))
  | .neq => some (pbool (a != b))
  | .lss => some (pbool (decide (a < b)))
  | .leq => some (pbool (decide (a ≤ b)))
  | .gtr => some (pbool (decide (a > b)))
  | .geq => some (pbool (decide (a ≥ b)))
  | _ => none
def evBinV (op : BinOp) (x y : AV) : Option AV :=
  match op, x, y with
  | .shl, .one (.p (.int k a)), .one (.p (.int _ b)) => if b < 0 then none else some (pint k (shlZ k a b))
  | .shr, .one (.p (.int k a)), .one (.p (.int _ b)) => if b < 0 then none else some (pint k (shrZ k a b))
  | op, .one (.p (.int k a)), .one (.p (.int k' b)) => if k = k' then evBin op k a b else none
  | _, _, _ => none
def isNeq : BinOp → Bool
  | .neq => true
  | _ => false
def isNilC : AC → Option Bool
  | .nils | .p .nilF | .p .nilI | .p .nilP => some true
  | .p (.fn _ _ _) | .mfn _ _ _ | .p (.ifc _ _) | .p (.ifcA _ _) | .p (.box _) | .ptr _ _ _ _ => some false
  | .p (.sl rows) => if rows.isEmpty then none else some false
  | .msl _ _ _ len _ => if len = 0 then none else some false
  | _ => none
def isNilK : Nat → AC → Option Bool
  | 0, .nils => some true
  | 0, .p (.sl rows) => if rows.isEmpty then none else some false
  | 0, .msl _ _ _ len _ => if len = 0 then none else some false
  | 1, .p .nilF => some true
  | 1, .p (.fn _ _ _) | 1, .mfn _ _ _ => some false
  | 2, .p .nilI => some true
  | 2, .p (.ifc _ _) | 2, .p (.ifcA _ _) => some false
  | _, _ => none
def evNil (kd : Nat) (neg : Bool) (c d : AC) : Option AV :=
  match isNilK kd c, isNilK kd d with
  | some a, some true => some (pbool (if neg then !a else a))
  | some true, some b => some (pbool (if neg then !b else b))
  | _, _ => none
def fillC (cells : List AC) : List (Nat × List AC) → List AC
  | [] => cells
  | (off, cs) :: ps => fillC (cells.take off ++ cs ++ cells.drop (off + cs.length)) ps
def asCells : AV → Option (List AC)
  | .one c => some [c]
  | .agg cs => some cs
  | _ => none
def parts (e : Env) : List (Nat × Nat × Opd) → Option (List (Nat × List AC))
  | [] => some []
  | (off, n, x) :: ps => match asCells (get e x) with
    | some cs => if cs.length = n then (parts e ps).map ((off, cs) :: ·) else none
    | none => none
def acs : List AV → Option (List AC)
  | [] => some []
  | .one c :: vs => (acs vs).map (c :: ·)
  | _ => none
def C0ok : AC → Bool
  | .mfn _ _ _ => false
  | _ => true
def pvs : List AC → Option (List PV)
  | [] => some []
  | .p v :: cs => (pvs cs).map (v :: ·)
  | .nils :: cs => (pvs cs).map (.sl [] :: ·)
  | _ => none
def bndI (e : Env) (d : Int) : Option Opd → Option Int
  | none => some d
  | some x => match get e x with
    | .one (.p (.int _ n)) => some n
    | _ => none
def roomOf (σ : Sto) (t o s len : Nat) : Option Nat → Nat
  | some n => n
  | none => match lo σ t with
    | .arr _ s2 rows => if s2 = s ∧ s ≠ 0 then rows.length - o else len
    | _ => len
def slcC (t o s l h : Nat) (cap : Option Nat) : Option Nat → AC
  | some m => if l = m then .msl t o s 0 (some 0) else .msl t (o + l) s (h - l) (some (m - l))
  | none => if l = 0 then .msl t o s h cap
    else if l < h then .msl t (o + l) s (h - l) (cap.map (· - l))
    else match cap with
      | some n => if l = n then .msl t o s 0 (some 0) else .msl t (o + l) s 0 (some (n - l))
      | none => .p (.sl [])
def findE (n : Int) : List (Int × Bool × List PV) → Option (Bool × List PV)
  | [] => none
  | p :: r => if p.1 = n then some p.2 else findE n r
def entV : Bool × List PV → Option AV
  | (true, cs) => some (.agg (cs.map .p))
  | (false, [c]) => some (.one (.p c))
  | _ => none
def entriesOf (e : Env) (σ : Sto) (x : Opd) : Option (List (Int × Bool × List PV)) :=
  match get e x with
  | .one (.p (.map es)) => some es
  | .one (.mmap t) => match lo σ t with
    | .map _ es => some es
    | _ => none
  | _ => none
def carryN (sub : Bool) (x y c : Nat) : Nat × Nat :=
  if sub then ((x + 2 ^ 64 - y - c) % 2 ^ 64, if x < y + c then 1 else 0) else ((x + y + c) % 2 ^ 64, (x + y + c) / 2 ^ 64)
def evQ (q : QOp) (e : Env) (σ : Sto) : Option AV :=
  match q with
  | .mov x => some (get e x)
  | .pick c a b => match get e c with
    | .one (.p (.bool t)) => some (bif t then get e a else get e b)
    | _ => none
  | .load n g a => match get e a with
    | .one (.p (.box cells)) => ldP n g cells
    | .one (.ptr t i s off) => ldO n g i s off (lo σ t)
    | _ => none
  | .bin op x y => evBinV op (get e x) (get e y)
  | .eqB neg x y => match get e x, get e y with
    | .one (.p (.bool a)), .one (.p (.bool b)) => some (pbool (if neg then !(a == b) else a == b))
    | _, _ => none
  | .eqN kd neg x y => match get e x, get e y with
    | .one c, .one d => evNil kd neg c d
    | _, _ => none
  | .un op x => match op, get e x with
    | .not, .one (.p (.bool b)) => some (pbool (!b))
    | .neg, .one (.p (.int k n)) => some (pint k (k.wrap (0 - n)))
    | _, _ => none
  | .conv k x => match get e x with
    | .one (.p (.int _ n)) => some (pint k (k.wrap n))
    | _ => none
  | .faddr off x => match get e x with
    | .one (.p (.box cells)) => some (.one (.p (.box (cells.drop off))))
    | .one (.ptr t i s o) => some (.one (.ptr t i s (o + off)))
    | _ => none
  | .iaddr s x i => match get e x, get e i with
    | .one (.p (.sl rows)), .one (.p (.int _ n)) =>
      if 0 ≤ n ∧ n < rows.length then match rows[n.toNat]? with
        | some r => if r.length = s then some (.one (.p (.box r))) else none
        | none => none
      else none
    | .one (.msl t o s' len _), .one (.p (.int _ n)) => if s' = s ∧ 0 ≤ n ∧ n < len then some (.one (.ptr t (o + n.toNat) s 0)) else none
    | _, _ => none
  | .iaddrA len s x i => match get e x, get e i with
    | .one (.ptr t 0 s' 0), .one (.p (.int _ n)) => if s' = s ∧ 0 ≤ n ∧ n < len then some (.one (.ptr t n.toNat s 0)) else none
    | .one (.p (.box cells)), .one (.p (.int _ n)) => if 0 ≤ n ∧ n < len then some (.one (.p (.box (cells.drop (n.toNat * s))))) else none
    | _, _ => none
  | .extr x i => match get e x with
    | .tup vs => vs[i]?
    | _ => none
  | .len x => match get e x with
    | .one (.p (.sl rows)) => some (pint .i64 rows.length)
    | .one .nils => some (pint .i64 0)
    | .one (.msl _ _ _ len _) => some (pint .i64 len)
    | _ => none
  | .mlen x => match entriesOf e σ x with
    | some es => some (pint .i64 es.length)
    | _ => none
  | .slen x => match get e x with
    | .one (.p (.str s)) => some (pint .i64 s.size)
    | _ => none
  | .mkF f first caps => match acs (gets e first), acs (gets e caps) with
    | some a, some b => if (a ++ b).all C0ok then (match pvs a, pvs b with
        | some u, some v => some (.one (.p (.fn f u v)))
        | _, _ => some (.one (.mfn f a b))) else none
    | _, _ => none
  | .build z ps => match parts e ps with
    | some l => if (l.all fun p => p.1 + p.2.length ≤ z.length) then some (.agg (fillC z l)) else none
    | none => none
  | .nck x => match get e x with
    | .one c => if isNilC c = some false then some (.one c) else none
    | _ => none
  | .slc s x l h m => match get e x with
    | .one (.p (.sl rows)) => match bndI e 0 l, bndI e rows.length h, bndI e rows.length m with
      | some l, some h, some m => if 0 ≤ l ∧ l ≤ h ∧ h ≤ m ∧ m ≤ rows.length ∧ rows.all (fun r => r.length == s) = true then some (.one (.p (.sl ((rows.drop l.toNat).take (h.toNat - l.toNat))))) else none
      | _, _, _ => none
    | .one .nils => match bndI e 0 l, bndI e 0 h, bndI e 0 m with
      | some l, some h, some m => if l = 0 ∧ h = 0 ∧ m = 0 then some (.one .nils) else none
      | _, _, _ => none
    | .one (.msl t o s' len cap) => match bndI e 0 l, bndI e len h, bndI e (roomOf σ t o s len cap) m with
      | some l, some h, some k => if s' = s ∧ 0 ≤ l ∧ l ≤ h ∧ h ≤ k ∧ k ≤ roomOf σ t o s len cap then some (.one (slcC t o s l.toNat h.toNat cap (m.map fun _ => k.toNat))) else none
      | _, _, _ => none
    | _ => none
  | .slcA n s x l h m => match get e x with
    | .one (.ptr t 0 s' 0) => match lo σ t, bndI e 0 l, bndI e n h, bndI e n m with
      | .arr _ s2 rows, some l, some h, some m => if s' = s ∧ s2 = s ∧ rows.length = n ∧ 0 ≤ l ∧ l ≤ h ∧ h ≤ m ∧ m ≤ n then some (.one (slcC t 0 s l.toNat h.toNat none (some m.toNat))) else none
      | _, _, _, _ => none
    | _ => none
  | .mm g x y => match get e x, get e y with
    | .one (.p (.int k a)), .one (.p (.int _ b)) => some (pint k (if g then max a b else min a b))
    | _, _ => none
  | .sidx x i => match get e x, get e i with
    | .one (.p (.str s)), .one (.p (.int _ n)) => if 0 ≤ n then (match s[n.toNat]? with
      | some b => some (pint .u8 b.toNat)
      | none => none) else none
    | _, _ => none
  | .cap x => match get e x with
    | .one (.msl _ _ _ _ (some n)) => some (pint .i64 n)
    | .one .nils => some (pint .i64 0)
    | _ => none
  | .carry sb x y c => match get e x, get e y, get e c with
    | .one (.p (.int _ a)), .one (.p (.int _ b)), .one (.p (.int _ k)) => if k = 0 ∨ k = 1 then some (.tup [pint .u64 (carryN sb a.toNat b.toNat k.toNat).1, pint .u64 (carryN sb a.toNat b.toNat k.toNat).2]) else none
    | _, _, _ => none
  | .ovl s x y => match get e x, get e y with
    | .one (.msl t _ s1 _ _), .one (.msl u _ s2 _ _) => match lo σ t, lo σ u with
      | .arr true _ _, .arr _ _ _ => if t ≠ u ∧ s1 = s ∧ s2 = s ∧ s ≠ 0 then some (pbool false) else none
      | _, _ => none
    | _, _ => none
  | .mget z ok x k => match entriesOf e σ x, get e k with
    | some es, .one (.p (.int .i64 n)) => match (match findE n es with
        | some r => (entV r).map fun v => (v, true)
        | none => some (z, false)) with
      | some (v, b) => some (if ok then .tup [v, pbool b] else v)
      | none => none
    | _, _ => none
def szOf (P : Program) (t : TypeId) : Option Nat := (P.info? t).map (·.size)
def aggOf (P : Program) (t : TypeId) : Option Bool := (P.underlying t).map fun | .struct _ | .array _ _ => true | _ => false
def places (P : Program) (fs : Array Field) : List (Nat × Operand) → Option (List (Nat × Nat × Opd))
  | [] => some []
  | (i, x) :: ps => (fs[i]?).bind fun f => (szOf P f.type).bind fun n => (opd x).bind fun y => (places P fs ps).map ((f.offset, n, y) :: ·)
def placesA (n : Nat) : List (Nat × Operand) → Option (List (Nat × Nat × Opd))
  | [] => some []
  | (i, x) :: ps => (opd x).bind fun y => (placesA n ps).map ((i * n, n, y) :: ·)
def isConstO : Operand → Bool
  | .const _ => true
  | _ => false
def extOf (P : Program) (f : FuncId) : Option Nat :=
  match P.funcs[f]? with
  | some fn => if fn.body.isNone = true then
      (if fn.origin = "" ∧ fn.name = "math/bits.Add64" then some 0 else if fn.origin = "" ∧ fn.name = "math/bits.Sub64" then some 1
       else if fn.origin = "slices.overlaps" ∧ fn.name = "slices.overlaps[int]" then some 2 else none) else none
  | none => none
def parSz (P : Program) (f : FuncId) : Option Nat :=
  match P.funcs[f]? with
  | some fn => match fn.params.toList with
    | t :: _ => match P.underlying t with
      | some (.slice e) => szOf P e
      | _ => none
    | [] => none
  | none => none
def compQ (P : Program) (o : Op) : Option QOp :=
  match o with
  | .move x | .assign x => (opd x).map .mov
  | .pick c a b => (opd c).bind fun c => (opd a).bind fun a => (opd b).map fun b => .pick c a b
  | .load t a => (szOf P t).bind fun n => (aggOf P t).bind fun g => (opd a).map fun a => .load n g a
  | .binOp op xt x y _ => (opd x).bind fun x' => (opd y).bind fun y' =>
    match op with
    | .eql | .neq => match P.underlying xt with
      | some (.int _) => some (.bin op x' y')
      | some .bool => some (.eqB (isNeq op) x' y')
      | some (.slice _) => some (.eqN 0 (isNeq op) x' y')
      | some (.func _ _ _) => some (.eqN 1 (isNeq op) x' y')
      | some (.interface _) => if isConstO x || isConstO y then some (.eqN 2 (isNeq op) x' y') else none
      | _ => none
    | _ => some (.bin op x' y')
  | .unOp op _ x => (opd x).map fun x => .un op x
  | .convert src dst x => match P.underlying src, P.underlying dst with
    | some (.int _), some (.int k) => (opd x).map fun x => .conv k x
    | _, _ => none
  | .fieldAddr t x f => match P.underlying t with
    | some (.struct fs) => (fs[f]?).bind fun f => (szOf P f.type).bind fun n => if n = 0 then none else (opd x).map fun x => .faddr f.offset x
    | _ => none
  | .indexAddr t x i => match P.underlying t with
    | some (.slice e) => (szOf P e).bind fun n => (opd x).bind fun x => (opd i).map fun i => .iaddr n x i
    | some (.array len e) => (szOf P e).bind fun n => (opd x).bind fun x => (opd i).map fun i => .iaddrA len n x i
    | _ => none
  | .extract t i => (opd t).map fun t => .extr t i
  | .nilCheck x => (opd x).map .nck
  | .makeFunc (.func f) first caps => (opds first.toList).bind fun a => (opds caps.toList).map fun b => .mkF f a b
  | .build t ps => match P.underlying t, (P.info? t).bind (·.zero) with
    | some (.struct fs), some z => (constACs z.cells.toList).bind fun z => if fs.all (fun f => (szOf P f.type).isSome) then (places P fs ps.toList).map fun ps => .build z ps else none
    | some (.array _ e), some z => (constACs z.cells.toList).bind fun z => (szOf P e).bind fun n => (placesA n ps.toList).map fun ps => .build z ps
    | _, _ => none
  | .call { callee := .builtin .len, args, argTypes } => match args.toList, (argTypes[0]?).bind P.underlying with
    | [x], some (.slice _) => (opd x).map .len
    | [x], some (.map _ _) => (opd x).map .mlen
    | [x], some .string => (opd x).map .slen
    | _, _ => none
  | .call { callee := .builtin .cap, args, argTypes } => match args.toList, (argTypes[0]?).bind P.underlying with
    | [x], some (.slice _) => (opd x).map .cap
    | _, _ => none
  | .call { callee := .builtin .max, args, .. } => match args.toList with
    | [x, y] => (opd x).bind fun x => (opd y).map fun y => .mm true x y
    | _ => none
  | .call { callee := .builtin .min, args, .. } => match args.toList with
    | [x, y] => (opd x).bind fun x => (opd y).map fun y => .mm false x y
    | _ => none
  | .slice t x l h m => if m.isSome && h.isNone then none else match P.underlying t with
    | some (.slice e) => (szOf P e).bind fun n => (opd x).bind fun x => (opdO l).bind fun l => (opdO h).bind fun h => (opdO m).map fun m => .slc n x l h m
    | some (.array k e) => (szOf P e).bind fun n => (opd x).bind fun x => (opdO l).bind fun l => (opdO h).bind fun h => (opdO m).map fun m => .slcA k n x l h m
    | _ => none
  | .index t x i => match P.underlying t with
    | some .string => (opd x).bind fun x => (opd i).map fun i => .sidx x i
    | _ => none
  | .lookup t x k ok => match P.underlying t with
    | some (.map kt et) => match P.underlying kt with
      | some (.int _) => (((P.info? et).bind (·.zero)).bind constAV).bind fun z => (opd x).bind fun x => (opd k).map fun k => .mget z ok x k
      | _ => none
    | _ => none
  | .call { callee := .value (.func f), args, .. } => match extOf P f, args.toList with
    | some 0, [x, y, c] => (opd x).bind fun x => (opd y).bind fun y => (opd c).map fun c => .carry false x y c
    | some 1, [x, y, c] => (opd x).bind fun x => (opd y).bind fun y => (opd c).map fun c => .carry true x y c
    | some 2, [x, y] => (parSz P f).bind fun n => (opd x).bind fun x => (opd y).map fun y => .ovl n x y
    | _, _ => none
  | _ => none
end Go.AM

namespace Go.AM
open Go.RowKit (Below)
section runs
variable {P : Program} {w : World}
theorem run_und {t : TypeId} {d : TypeDesc} (h : P.underlying t = some d) : (underlying t).run P w = .ok d w := run_underlying h w
theorem run_ti {t : TypeId} {i : TypeInfo} (h : P.info? t = some i) : (typeInfo t).run P w = .ok i w := by
  simp [typeInfo, program, Sem.run, h]
theorem run_sz {t : TypeId} {n : Nat} (h : szOf P t = some n) : (sizeOf t).run P w = .ok n w := by
  unfold szOf at h
  cases hi : P.info? t with
  | none => simp [hi] at h
  | some i => simp [hi] at h; subst h; simp [sizeOf, run_ti hi]
theorem run_agg {t : TypeId} {g : Bool} (h : aggOf P t = some g) : (isAgg t).run P w = .ok g w := by
  unfold aggOf at h
  cases hd : P.underlying t with
  | none => simp [hd] at h
  | some d =>
    simp [hd] at h; subst h
    simp [isAgg, run_und hd]
    cases d <;> rfl
theorem run_loadCellsFrom (a : Addr) : ∀ (xs : List Value) (i : Nat) (acc : Array Value), (∀ j x, xs[j]? = some x → w.cell? (a.add (i + j)) = some x) →
    (loadCellsFrom a i xs.length acc).run P w = .ok (acc ++ ⟨xs⟩) w
  | [], i, acc, _ => by simp [loadCellsFrom]
  | x :: xs, i, acc, h => by
    have h0 := h 0 x rfl
    simp only [Nat.add_zero] at h0
    have ih := run_loadCellsFrom a xs (i + 1) (acc.push x) (fun j y hy => by
      have := h (j + 1) y (by simpa using hy)
      rwa [show i + 1 + j = i + (j + 1) from by omega])
    simp only [List.length_cons, loadCellsFrom, Sem.run_bind, run_load, h0, Result.andThen_ok, ih]
    congr 1
    apply Array.ext'
    simp
theorem add_eq (b off n : Nat) : (⟨b, off, none⟩ : Addr).add n = ⟨b, off + n, none⟩ := by
  unfold Addr.add
  by_cases h : n = 0
  · simp [h]
  · simp [h]
theorem run_loadVarAgg {t : TypeId} {n b off : Nat} (hs : szOf P t = some n) (hg : aggOf P t = some true) {xs : List Value} (hl : xs.length = n)
    (h : ∀ j x, xs[j]? = some x → w.cell? ⟨b, off + j, none⟩ = some x) : (loadVar t ⟨b, off, none⟩).run P w = .ok (.agg ⟨xs⟩) w := by
  subst hl
  have hh := run_loadCellsFrom (P := P) (w := w) ⟨b, off, none⟩ xs 0 #[] (fun j x hx => by rw [add_eq]; simpa using h j x hx)
  simp only [loadVar, Sem.run_bind, run_agg hg, Result.andThen_ok, run_sz hs, loadCells, if_true]
  rw [hh]
  simp
theorem run_loadVarOne {t : TypeId} {b off : Nat} (hg : aggOf P t = some false) {x : Value}
    (h : w.cell? ⟨b, off, none⟩ = some x) : (loadVar t ⟨b, off, none⟩).run P w = .ok x w := by
  simp [loadVar, run_agg hg, h]
end runs
theorem PAt.cells {A : Nat → Prop} {w : World} : ∀ {vs : List PV} {b off : Nat}, PAt A w vs b off → ∃ xs, All2 (PRel A w) vs xs ∧ ∀ j x, xs[j]? = some x → w.cell? ⟨b, off + j, none⟩ = some x
  | [], _, _, _ => ⟨[], .nil, fun j x h => by simp at h⟩
  | _ :: _, b, off, .atCons c cs _ _ x hx h t => by
    obtain ⟨xs, h1, h2⟩ := PAt.cells t
    refine ⟨x :: xs, .cons h h1, fun j y hy => ?_⟩
    cases j with
    | zero => simp at hy; subst hy; exact hx
    | succ j =>
      rw [← h2 j y (by simpa using hy)]; congr 2; omega
theorem take_getElem {α : Type} {l : List α} {n i : Nat} {a : α} (h : (l.take n)[i]? = some a) : l[i]? = some a := by
  rw [List.getElem?_take] at h; split at h
  · exact h
  · simp at h
section load
variable {P : Program} {w : World} {A : Nat → Prop} {τ : Tau}
theorem ldP_sound {t : TypeId} {n b off : Nat} {g : Bool} {cells : List PV} {v : AV} (hs : szOf P t = some n) (hg : aggOf P t = some g) (h : PAt A w cells b off)
    (he : ldP n g cells = some v) : ∃ x, (loadVar t ⟨b, off, none⟩).run P w = .ok x w ∧ VRel A τ w v x := by
  obtain ⟨xs, h1, h2⟩ := h.cells
  unfold ldP at he
  cases g with
  | true =>
    simp only [if_true] at he
    split at he
    · rename_i hn
      cases he
      refine ⟨.agg ⟨xs.take n⟩, run_loadVarAgg hs hg (by simp [h1.length] at hn ⊢; omega) (fun j x hx => h2 j x (take_getElem hx)), .v1 (.agg ?_)⟩
      have := h1.take n
      clear h2 hn h
      generalize cells.take n = cs at this ⊢
      generalize xs.take n = ys at this ⊢
      induction this with
      | nil => exact .nil
      | cons h _ ih => exact .cons (.c0 (.p _ _ h)) ih
    · cases he
  | false =>
    simp only [Bool.false_eq_true, if_false] at he
    split at he
    · rename_i c cs
      cases he
      cases h1 with
      | cons hc _ => exact ⟨_, run_loadVarOne hg (by simpa using h2 0 _ rfl), .v1 (.one (.c0 (.p _ _ hc)))⟩
    · cases he
theorem ldC_sound {t : TypeId} {n b off : Nat} {g : Bool} {cells : List AC} {v : AV} {xs : List Value} (hs : szOf P t = some n) (hg : aggOf P t = some g)
    (h1 : All2 (CRel A τ w) cells xs) (h2 : ∀ (j : Nat) x, xs[j]? = some x → w.cell? ⟨b, off + j, none⟩ = some x)
    (he : ldC n g cells = some v) : ∃ x, (loadVar t ⟨b, off, none⟩).run P w = .ok x w ∧ VRel A τ w v x := by
  unfold ldC at he
  cases g with
  | true =>
    simp only [if_true] at he
    split at he
    · rename_i hn
      cases he
      exact ⟨.agg ⟨xs.take n⟩, run_loadVarAgg hs hg (by simp [h1.length] at hn ⊢; omega) (fun j x hx => h2 j x (take_getElem hx)), .v1 (.agg (h1.take n))⟩
    · cases he
  | false =>
    simp only [Bool.false_eq_true, if_false] at he
    split at he
    · rename_i c cs
      cases he
      cases h1 with
      | cons hc _ => exact ⟨_, run_loadVarOne hg (by simpa using h2 0 _ rfl), .v1 (.one hc)⟩
    · cases he
theorem flatten_get {α : Type} (s : Nat) : ∀ (rows : List (List α)), (∀ r ∈ rows, r.length = s) → ∀ (i j : Nat) (r : List α) (x : α), rows[i]? = some r → r[j]? = some x → rows.flatten[i * s + j]? = some x
  | [], _, i, _, _, _, hi, _ => by simp at hi
  | r0 :: rows, hs, i, j, r, x, hi, hj => by
    have h0 := hs r0 (by simp)
    have hjs : j < r.length := (List.getElem?_eq_some_iff.1 hj).1
    cases i with
    | zero =>
      simp at hi; subst hi
      simp only [List.flatten_cons, Nat.zero_mul, Nat.zero_add]
      rw [List.getElem?_append_left hjs]; exact hj
    | succ i =>
      have hi' : rows[i]? = some r := by simpa using hi
      have ih := flatten_get s rows (fun r hr => hs r (by simp [hr])) i j r x hi' hj
      simp only [List.flatten_cons]
      rw [List.getElem?_append_right (by rw [h0, Nat.succ_mul]; omega), h0, ← ih]
      congr 1
      rw [Nat.succ_mul]; omega
theorem row_at {s i b off : Nat} {rows : List (List PV)} {r : List PV} (hs : ∀ r ∈ rows, r.length = s) (hi : rows[i]? = some r) (h : PAt A w rows.flatten b off) :
    PAt A w r b (off + i * s) := by
  refine PAt.of_get fun j v hj => ?_
  obtain ⟨x, hx, hr⟩ := h.get _ v (flatten_get s rows hs i j r v hi hj)
  exact ⟨x, by rw [← hx]; congr 2; omega, hr⟩
theorem PAt.dropAt {vs : List PV} {b off : Nat} (h : PAt A w vs b off) (m : Nat) : PAt A w (vs.drop m) b (off + m) := by
  refine PAt.of_get fun i v hi => ?_
  rw [List.getElem?_drop] at hi
  obtain ⟨x, hx, hr⟩ := h.get _ v hi
  exact ⟨x, by rw [← hx]; congr 2; omega, hr⟩
theorem ldO_sound {M : Nat → Prop} {t' b : Nat} {t : TypeId} {n i s off : Nat} {g : Bool} {o : AO} {v : AV} (hs : szOf P t = some n) (hg : aggOf P t = some g) (h : ORel M A τ w t' o)
    (hb : τ t' = some b) (he : ldO n g i s off o = some v) : ∃ x, (loadVar t ⟨b, i * s + off, none⟩).run P w = .ok x w ∧ VRel A τ w v x := by
  cases o with
  | none => simp [ldO] at he
  | map m es => simp [ldO] at he
  | cells m cs =>
    obtain ⟨b', xs, e, h1, h2, h3, h4⟩ := h
    obtain rfl : b' = b := by rw [hb] at h1; exact (Option.some.inj h1).symm
    simp only [ldO] at he
    split at he
    · rename_i hi
      subst hi
      refine ldC_sound hs hg (h3.drop off) (fun j x hx => ?_) he
      rw [List.getElem?_drop] at hx
      simp only [World.cell?, h2]
      simpa using hx
    · cases he
  | arr m s' rows =>
    obtain ⟨h0, hl, h⟩ := h
    rcases h with ⟨h1, _⟩ | ⟨b', xs, e, h1, h2, h3, h4, h5⟩
    · rw [hb] at h1; cases h1
    obtain rfl : b' = b := by rw [hb] at h1; exact (Option.some.inj h1).symm
    simp only [ldO] at he
    split at he
    · rename_i hss
      subst hss
      split at he
      · rename_i hc
        simp only [Bool.and_eq_true, beq_iff_eq, bne_iff_ne, ne_eq] at hc
        obtain ⟨⟨⟨hg1, hi⟩, ho⟩, _⟩ := hc
        subst hi ho
        split at he
        · exact ldP_sound hs hg (by simpa using h4) he
        · cases he
      · split at he
        · rename_i r hr
          have := (row_at h0 hr h4).dropAt off
          exact ldP_sound hs hg (by simpa using this) he
        · cases he
    · cases he
end load
section sound
variable {P : Program} {G : Ground} {s : AS} {a : Act} {w : World} {A : Nat → Prop} {τ : Tau}
theorem one_inv {c : AC} {x : Value} (h : VRel A τ w (.one c) x) : CRel A τ w c x := by
  cases h with
  | v1 h => cases h with | one h => exact h
theorem p_inv {v : PV} {x : Value} (h : VRel A τ w (.one (.p v)) x) : PRel A w v x := by
  cases one_inv h with
  | c0 h => cases h with | p _ _ h => exact h
theorem int_inv {k : IntKind} {n : Int} {x : Value} (h : VRel A τ w (.one (.p (.int k n))) x) : x = .int k n := by
  cases p_inv h; rfl
theorem bool_inv {b : Bool} {x : Value} (h : VRel A τ w (.one (.p (.bool b))) x) : x = .bool b := by
  cases p_inv h; rfl
theorem box_inv {cells : List PV} {x : Value} (h : VRel A τ w (.one (.p (.box cells))) x) : ∃ b off, x = .pointer (some ⟨b, off, none⟩) ∧ A b ∧ PAt A w cells b off := by
  cases p_inv h with
  | box _ b off hA h1 => exact ⟨b, off, rfl, hA, h1⟩
theorem ptr_inv {t i s off : Nat} {x : Value} (h : VRel A τ w (.one (.ptr t i s off)) x) : ∃ b, x = .pointer (some ⟨b, i * s + off, none⟩) ∧ τ t = some b := by
  cases one_inv h with
  | c0 h1 => cases h1 with | ptr _ _ _ _ b h2 => exact ⟨b, rfl, h2⟩
theorem pint_rel (k : IntKind) (n : Int) : VRel A τ w (pint k n) (.int k n) := .v1 (.one (.c0 (.p _ _ (.int k n))))
theorem pbool_rel (b : Bool) : VRel A τ w (pbool b) (.bool b) := .v1 (.one (.c0 (.p _ _ (.bool b))))
theorem boxrel {cells : List PV} {b off : Nat} (hA : A b) (h : PAt A w cells b off) : VRel A τ w (.one (.p (.box cells))) (.pointer (some ⟨b, off, none⟩)) :=
  .v1 (.one (.c0 (.p _ _ (.box _ _ _ hA h))))
theorem nil_sound {c : AC} {x : Value} {b : Bool} (h : CRel A τ w c x) (he : isNilC c = some b) :
    (b = true ∧ (x = .slice none 0 0 ∨ x = .nilFunc ∨ x = .nilIface ∨ x = .pointer none)) ∨
    (b = false ∧ ((∃ a l k, x = .slice (some a) l k) ∨ (∃ f u v, x = .func (.func f) u v) ∨ (∃ t v, x = .iface t v) ∨ (∃ a, x = .pointer (some a)))) := by
  unfold isNilC at he
  split at he
  · cases he; left; refine ⟨rfl, ?_⟩; cases h with | c0 h => cases h; exact .inl rfl
  · cases he; left; refine ⟨rfl, ?_⟩; cases h with | c0 h => cases h with | p _ _ h => cases h; exact .inr (.inl rfl)
  · cases he; left; refine ⟨rfl, ?_⟩; cases h with | c0 h => cases h with | p _ _ h => cases h; exact .inr (.inr (.inl rfl))
  · cases he; left; refine ⟨rfl, ?_⟩; cases h with | c0 h => cases h with | p _ _ h => cases h; exact .inr (.inr (.inr rfl))
  · cases he; right; refine ⟨rfl, ?_⟩; cases h with | c0 h => cases h with | p _ _ h => cases h; exact .inr (.inl ⟨_, _, _, rfl⟩)
  · cases he; right; refine ⟨rfl, ?_⟩; cases h with | c0 h => cases h | mfn => exact .inr (.inl ⟨_, _, _, rfl⟩)
  · cases he; right; refine ⟨rfl, ?_⟩; cases h with | c0 h => cases h with | p _ _ h => cases h; exact .inr (.inr (.inl ⟨_, _, rfl⟩))
  · cases he; right; refine ⟨rfl, ?_⟩; cases h with | c0 h => cases h with | p _ _ h => cases h; exact .inr (.inr (.inl ⟨_, _, rfl⟩))
  · cases he; right; refine ⟨rfl, ?_⟩; cases h with | c0 h => cases h with | p _ _ h => cases h; exact .inr (.inr (.inr ⟨_, rfl⟩))
  · cases he; right; refine ⟨rfl, ?_⟩; cases h with | c0 h => cases h; exact .inr (.inr (.inr ⟨_, rfl⟩))
  · rename_i rows
    split at he
    · cases he
    · rename_i hne
      cases he; right; refine ⟨rfl, ?_⟩
      cases h with | c0 h => cases h with | p _ _ h => cases h with
        | nil => simp at hne
        | sl => exact .inl ⟨_, _, _, rfl⟩
  · split at he
    · cases he
    · rename_i hne
      cases he; right; refine ⟨rfl, ?_⟩
      cases h with | c0 h => cases h with
        | mslN => simp at hne
        | msl => exact .inl ⟨_, _, _, rfl⟩
  · cases he
theorem run_eqB' (d : Nat) {t : TypeId} (hu : P.underlying t = some .bool) (a b : Bool) : (Op.equalIn (d + 1) t (.bool a) (.bool b)).run P w = .ok (a == b) w := by
  simp only [Op.equalIn, Sem.run_bind, run_und hu, Result.andThen_ok, Sem.run_pure]
theorem run_eqB {t : TypeId} (hu : P.underlying t = some .bool) (a b : Bool) : (Op.equal t (.bool a) (.bool b)).run P w = .ok (a == b) w := run_eqB' 9999 hu a b
theorem guard_plain {op : BinOp} {t : TypeId} {x y : Operand} {u v : Value} (h : ∀ us, u ≠ .agg us)
    (h2 : u = .nilIface → v = .nilIface → ((match x with | .const _ => true | _ => false) || (match y with | .const _ => true | _ => false)) = true) :
    (eqGuard op t x y u v).run P w = .ok () w := by
  unfold eqGuard
  cases op <;> first
    | rfl
    | (cases u <;> first
        | rfl
        | exact absurd rfl (h _)
        | (cases v <;> first
            | rfl
            | (have h3 := h2 rfl rfl
               cases x <;> cases y <;> first | rfl | (simp at h3))))
theorem nilK_sound {kd : Nat} {c : AC} {x : Value} {b : Bool} (h : CRel A τ w c x) (he : isNilK kd c = some b) :
    (kd = 0 ∧ ((b = true ∧ x = .slice none 0 0) ∨ (b = false ∧ ∃ a l k, x = .slice (some a) l k))) ∨
    (kd = 1 ∧ ((b = true ∧ x = .nilFunc) ∨ (b = false ∧ ∃ f u v, x = .func f u v))) ∨
    (kd = 2 ∧ ((b = true ∧ x = .nilIface) ∨ (b = false ∧ ∃ t v, x = .iface t v))) := by
  unfold isNilK at he
  split at he
  · cases he; left; refine ⟨rfl, .inl ⟨rfl, ?_⟩⟩; cases h with | c0 h => cases h; rfl
  · rename_i rows
    split at he
    · cases he
    · rename_i hne
      cases he; left; refine ⟨rfl, .inr ⟨rfl, ?_⟩⟩
      cases h with | c0 h => cases h with | p _ _ h => cases h with
        | nil => simp at hne
        | sl => exact ⟨_, _, _, rfl⟩
  · split at he
    · cases he
    · rename_i hne
      cases he; left; refine ⟨rfl, .inr ⟨rfl, ?_⟩⟩
      cases h with | c0 h => cases h with
        | mslN => simp at hne
        | msl => exact ⟨_, _, _, rfl⟩
  · cases he; right; left; refine ⟨rfl, .inl ⟨rfl, ?_⟩⟩; cases h with | c0 h => cases h with | p _ _ h => cases h; rfl
  · cases he; right; left; refine ⟨rfl, .inr ⟨rfl, ?_⟩⟩; cases h with | c0 h => cases h with | p _ _ h => cases h; exact ⟨_, _, _, rfl⟩
  · cases he; right; left; refine ⟨rfl, .inr ⟨rfl, ?_⟩⟩; cases h with | c0 h => cases h | mfn => exact ⟨_, _, _, rfl⟩
  · cases he; right; right; refine ⟨rfl, .inl ⟨rfl, ?_⟩⟩; cases h with | c0 h => cases h with | p _ _ h => cases h; rfl
  · cases he; right; right; refine ⟨rfl, .inr ⟨rfl, ?_⟩⟩; cases h with | c0 h => cases h with | p _ _ h => cases h; exact ⟨_, _, rfl⟩
  · cases he; right; right; refine ⟨rfl, .inr ⟨rfl, ?_⟩⟩; cases h with | c0 h => cases h with | p _ _ h => cases h; exact ⟨_, _, rfl⟩
  · cases he
def kdOf : TypeDesc → Option Nat
  | .slice _ => some 0
  | .func _ _ _ => some 1
  | .interface _ => some 2
  | _ => none
theorem nil_run {t : TypeId} {d : TypeDesc} (hu : P.underlying t = some d) {kd : Nat} (hk : kdOf d = some kd) {c e : AC} {x y : Value} {a' b' : Bool} (h1 : CRel A τ w c x) (h2 : CRel A τ w e y)
    (e1 : isNilK kd c = some a') (e2 : isNilK kd e = some b') (hab : a' = true ∨ b' = true) (n : Nat) :
    (Op.equalIn (n + 1) t x y).run P w = .ok (a' == b') w := by
  have k1 := nilK_sound h1 e1
  have k2 := nilK_sound h2 e2
  clear h1 h2 e1 e2
  cases d <;> simp only [kdOf] at hk <;> cases hk
  · rcases k1 with ⟨_, h⟩ | ⟨h0, _⟩ | ⟨h0, _⟩
    · rcases k2 with ⟨_, h'⟩ | ⟨h0, _⟩ | ⟨h0, _⟩
      · rcases h with ⟨rfl, rfl⟩ | ⟨rfl, u1, u2, u3, rfl⟩ <;> rcases h' with ⟨rfl, rfl⟩ | ⟨rfl, v1, v2, v3, rfl⟩ <;> first | (simp [Op.equalIn, run_und hu]; done) | (simp at hab)
      · cases h0
      · cases h0
    · cases h0
    · cases h0
  · rcases k1 with ⟨h0, _⟩ | ⟨_, h⟩ | ⟨h0, _⟩
    · cases h0
    · rcases k2 with ⟨h0, _⟩ | ⟨_, h'⟩ | ⟨h0, _⟩
      · cases h0
      · rcases h with ⟨rfl, rfl⟩ | ⟨rfl, u1, u2, u3, rfl⟩ <;> rcases h' with ⟨rfl, rfl⟩ | ⟨rfl, v1, v2, v3, rfl⟩ <;> first | (simp [Op.equalIn, run_und hu]; done) | (simp at hab)
      · cases h0
    · cases h0
  · rcases k1 with ⟨h0, _⟩ | ⟨h0, _⟩ | ⟨_, h⟩
    · cases h0
    · cases h0
    · rcases k2 with ⟨h0, _⟩ | ⟨h0, _⟩ | ⟨_, h'⟩
      · cases h0
      · cases h0
      · rcases h with ⟨rfl, rfl⟩ | ⟨rfl, u1, u2, rfl⟩ <;> rcases h' with ⟨rfl, rfl⟩ | ⟨rfl, v1, v2, rfl⟩ <;> first | (simp [Op.equalIn, run_und hu]; done) | (simp at hab)
end sound
end Go.AM

namespace Go.AM
open Go.RowKit (Below)
variable {P : Program} {G : Ground} {s : AS} {a : Act} {w : World} {A : Nat → Prop} {τ : Tau}
def Gives (P : Program) (a : Act) (w : World) (A : Nat → Prop) (τ : Tau) (o : Oper) (v : AV) : Prop :=
  ∃ x, (execOp a.eval o).run P w = .ok (.value x) w ∧ VRel A τ w v x
theorem bind_some' {α β : Type} {x : Option α} {f : α → Option β} {b : β} (h : x.bind f = some b) : ∃ a, x = some a ∧ f a = some b := by
  cases x with
  | none => simp at h
  | some a => exact ⟨a, rfl, h⟩
theorem map_some' {α β : Type} {x : Option α} {f : α → β} {b : β} (h : x.map f = some b) : ∃ a, x = some a ∧ f a = b := by
  cases x with
  | none => simp at h
  | some a => exact ⟨a, rfl, by simpa using h⟩
theorem ints_sound {op : BinOp} {k : IntKind} {m n : Int} {v : AV} (he : evBin op k m n = some v) (hop : op ≠ .shl ∧ op ≠ .shr) (t : TypeId) :
    ∃ x, (binOp op t (.int k m) (.int k n)).run P w = .ok x w ∧ VRel A τ w v x := by
  cases op <;> simp only [evBin] at he <;>
    first
      | (cases he; first
          | exact ⟨_, rfl, pbool_rel _⟩
          | exact ⟨_, rfl, pint_rel _ _⟩
          | (refine ⟨_, ?_, pint_rel _ _⟩; simp [binOp, Op.intArith, Op.intBits, andZ, orZ, xorZ]; done)
          | (refine ⟨_, ?_, pbool_rel _⟩; simp [binOp, Op.intCmp]; done))
      | (split at he
         · cases he
         · rename_i hz
           cases he
           refine ⟨_, ?_, pint_rel _ _⟩
           simp [binOp, Op.intDiv, hz])
      | (exact absurd rfl hop.1)
      | (exact absurd rfl hop.2)
      | cases he
theorem bin_sound {op : BinOp} {x y : AV} {u v : Value} {r : AV} (hx : VRel A τ w x u) (hy : VRel A τ w y v)
    (he : evBinV op x y = some r) (t : TypeId) :
    (∀ us, u ≠ .agg us) ∧ u ≠ .nilIface ∧ ∃ z, (binOp op t u v).run P w = .ok z w ∧ VRel A τ w r z := by
  unfold evBinV at he
  split at he
  · have h1 := int_inv hx
    have h2 := int_inv hy
    subst h1 h2
    split at he
    · cases he
    · rename_i hn
      cases he
      refine ⟨(fun _ h => by cases h), (fun h => by cases h), _, ?_, pint_rel _ _⟩
      simp [binOp, Op.shift, hn, shlZ, shrZ]
  · have h1 := int_inv hx
    have h2 := int_inv hy
    subst h1 h2
    split at he
    · cases he
    · rename_i hn
      cases he
      refine ⟨(fun _ h => by cases h), (fun h => by cases h), _, ?_, pint_rel _ _⟩
      simp [binOp, Op.shift, hn, shlZ, shrZ]
  · rename_i hop1 hop2
    have h1 := int_inv hx
    have h2 := int_inv hy
    subst h1 h2
    split at he
    · rename_i hk
      subst hk
      refine ⟨(fun _ h => by cases h), (fun h => by cases h), ?_⟩
      refine ints_sound he ⟨fun h => ?_, fun h => ?_⟩ t
      · exact hop1 h
      · exact hop2 h
    · cases he
  · cases he
theorem acs_sound {vs : List AV} {xs : List Value} (h : All2 (VRel A τ w) vs xs) : ∀ {cs : List AC}, acs vs = some cs → All2 (CRel A τ w) cs xs := by
  induction h with
  | nil => intro cs hc; simp [acs] at hc; subst hc; exact .nil
  | @cons v x vs xs hv _ ih =>
    intro cs hc
    cases v with
    | one c =>
      simp only [acs] at hc
      obtain ⟨cs', h1, rfl⟩ := map_some' hc
      exact .cons (one_inv hv) (ih h1)
    | agg => simp [acs] at hc
    | tup => simp [acs] at hc
    | top => simp [acs] at hc
    | und => simp [acs] at hc
theorem pvs_sound {cs : List AC} {xs : List Value} (h : All2 (CRel A τ w) cs xs) : ∀ {vs : List PV}, pvs cs = some vs → All2 (PRel A w) vs xs := by
  induction h with
  | nil => intro vs hc; simp [pvs] at hc; subst hc; exact .nil
  | @cons c x cs xs hv _ ih =>
    intro vs hc
    cases c <;> simp only [pvs] at hc <;> (try (cases hc; done))
    · obtain ⟨vs', h1, rfl⟩ := map_some' hc
      exact .cons (p_inv (.v1 (.one hv))) (ih h1)
    · obtain ⟨vs', h1, rfl⟩ := map_some' hc
      refine .cons ?_ (ih h1)
      cases hv with | c0 hv => cases hv; exact .nil none 0
theorem c0s_sound {cs : List AC} {xs : List Value} (h : All2 (CRel A τ w) cs xs) (hok : ∀ c ∈ cs, C0ok c = true) : All2 (C0 A τ w) cs xs :=
  h.stepL hok fun c _ hc hr => by
    cases hr with
    | c0 h => exact h
    | mfn => simp [C0ok] at hc
theorem asCells_sound {v : AV} {x : Value} {cs : List AC} (h : VRel A τ w v x) (hc : asCells v = some cs) : All2 (CRel A τ w) cs x.cells.toList := by
  cases v with
  | one c =>
    cases hc
    have := one_inv h
    have h1 := this.cell1
    cases x <;> first | (simp [cell1] at h1; done) | exact .cons this .nil
  | agg cs' =>
    cases hc
    cases h with | v1 h => cases h with | agg h => exact h
  | tup => cases hc
  | top => cases hc
  | und => cases hc
theorem foldl_cells : ∀ (vs : List Value) (pre post mid : List Value), mid.length = vs.length →
    ((vs.zipIdx pre.length).foldl (fun (cs : Array Value) (p : Value × Nat) => cs.setIfInBounds p.2 p.1) ⟨pre ++ mid ++ post⟩) = ⟨pre ++ vs ++ post⟩
  | [], pre, post, mid, h => by
    have : mid = [] := List.length_eq_zero_iff.1 h
    subst this; simp
  | v :: vs, pre, post, mid, h => by
    obtain ⟨m, mid', rfl⟩ : ∃ m mid', mid = m :: mid' := by
      cases mid with
      | nil => simp at h
      | cons m mid' => exact ⟨m, mid', rfl⟩
    simp only [List.zipIdx_cons, List.foldl_cons]
    have e1 : (⟨pre ++ (m :: mid') ++ post⟩ : Array Value).setIfInBounds pre.length v = ⟨(pre ++ [v]) ++ mid' ++ post⟩ := by
      apply Array.ext'
      simp
    rw [e1]
    have := foldl_cells vs (pre ++ [v]) post mid' (by simpa using h)
    simp only [List.length_append, List.length_cons, List.length_nil, Nat.zero_add] at this
    rw [this]
    simp
theorem fold_fill (off : Nat) (vs : List Value) (cells : List Value) (h : off + vs.length ≤ cells.length) :
    ((Array.zipIdx ⟨vs⟩).foldl (fun (cs : Array Value) (p : Value × Nat) => cs.setIfInBounds (off + p.2) p.1) ⟨cells⟩) = ⟨cells.take off ++ vs ++ cells.drop (off + vs.length)⟩ := by
  have hsplit : cells = cells.take off ++ ((cells.drop off).take vs.length) ++ cells.drop (off + vs.length) := by
    rw [List.append_assoc, ← List.drop_drop, List.take_append_drop, List.take_append_drop]
  have h1 := foldl_cells vs (cells.take off) (cells.drop (off + vs.length)) ((cells.drop off).take vs.length) (by simp; omega)
  rw [← hsplit] at h1
  have hlen : (cells.take off).length = off := by simp; omega
  rw [hlen] at h1
  rw [← h1]
  rw [show (Array.zipIdx (⟨vs⟩ : Array Value)) = ⟨vs.zipIdx⟩ from by simp]
  rw [List.foldl_toArray' _ _ _ (by simp)]
  have : ∀ (l : List Value) (k : Nat) (init : Array Value), (l.zipIdx k).foldl (fun (cs : Array Value) (p : Value × Nat) => cs.setIfInBounds (off + p.2) p.1) init =
      (l.zipIdx (off + k)).foldl (fun (cs : Array Value) (p : Value × Nat) => cs.setIfInBounds p.2 p.1) init := by
    intro l
    induction l with
    | nil => intro k init; rfl
    | cons x l ih => intro k init; simp only [List.zipIdx_cons, List.foldl_cons]; exact ih (k + 1) _
  have := this vs 0 ⟨cells⟩
  simpa using this
theorem fill_sound {place : Nat → Option (Nat × Nat)} : ∀ {l : List (Nat × List AC)} {qs : List (Nat × Value)} {z : List AC} {xs : List Value},
    All2 (fun (p : Nat × List AC) (q : Nat × Value) => place q.1 = some (p.1, p.2.length) ∧ All2 (CRel A τ w) p.2 q.2.cells.toList) l qs → All2 (CRel A τ w) z xs →
    (∀ p ∈ l, p.1 + p.2.length ≤ z.length) → ∃ ys, Instr.fill place ⟨xs⟩ qs = some ⟨ys⟩ ∧ All2 (CRel A τ w) (fillC z l) ys
  | [], [], z, xs, _, hz, _ => ⟨xs, rfl, hz⟩
  | p :: l, q :: qs, z, xs, .cons ⟨h1, h2⟩ ht, hz, hb => by
    have hlen := h2.length
    have hlz := hz.length
    have hb0 := hb p (by simp)
    obtain ⟨ys, hy1, hy2⟩ := fill_sound (place := place) (z := z.take p.1 ++ p.2 ++ z.drop (p.1 + p.2.length)) (xs := xs.take p.1 ++ q.2.cells.toList ++ xs.drop (p.1 + p.2.length)) ht
      (((hz.take _).append h2).append (hz.drop _)) (fun r hr => by
        have := hb r (by simp [hr])
        simp; omega)
    refine ⟨ys, ?_, hy2⟩
    obtain ⟨qi, qv⟩ := q
    simp only [Instr.fill, h1]
    have hsz : qv.cells.size = p.2.length := by simpa using hlen.symm
    have hsz2 : qv.cells.size ≤ xs.length := by omega
    rw [if_neg (by simp [hsz]; omega)]
    rw [← hy1]
    have hf := fold_fill p.1 qv.cells.toList xs (by simp [hsz]; omega)
    simp only [Array.toArray_toList, Array.length_toList, hsz] at hf
    rw [← hf]
theorem parts_sound (h : SimAt G s a w A τ) {fs : Array Field} : ∀ {ps : List (Nat × Operand)} {ps' : List (Nat × Nat × Opd)} {l : List (Nat × List AC)}, places P fs ps = some ps' → parts s.env ps' = some l →
    All2 (fun (p : Nat × List AC) (q : Nat × Value) => ((fs[q.1]?).bind fun f => (szOf P f.type).map fun n => (f.offset, n)) = some (p.1, p.2.length) ∧ All2 (CRel A τ w) p.2 q.2.cells.toList) l (ps.map fun p => (p.1, a.eval p.2))
  | [], ps', l, hp, hl => by
    simp [places] at hp; subst hp; simp [parts] at hl; subst hl; exact .nil
  | (i, x) :: ps, ps', l, hp, hl => by
    simp only [places] at hp
    obtain ⟨f, hf, hp⟩ := bind_some' hp
    obtain ⟨n, hn, hp⟩ := bind_some' hp
    obtain ⟨y, hy, hp⟩ := bind_some' hp
    obtain ⟨ps2, hp2, rfl⟩ := map_some' hp
    simp only [parts] at hl
    split at hl
    · rename_i cs hcs
      split at hl
      · rename_i hlen
        obtain ⟨l2, hl2, rfl⟩ := map_some' hl
        refine .cons ⟨?_, ?_⟩ (parts_sound h hp2 hl2)
        · simp [hf, hn, hlen]
        · exact asCells_sound (opd_sound h hy) hcs
      · cases hl
    · cases hl
theorem run_mapM_places : ∀ (fs : List Field), (∀ f ∈ fs, (szOf P f.type).isSome = true) →
    (fs.mapM (fun f => do pure (f.offset, ← sizeOf f.type)) : Sem (List (Nat × Nat))).run P w = .ok (fs.map fun f => (f.offset, (szOf P f.type).getD 0)) w
  | [], _ => by simp
  | f :: fs, h => by
    obtain ⟨n, hn⟩ := Option.isSome_iff_exists.1 (h f (by simp))
    have ih := run_mapM_places fs (fun g hg => h g (by simp [hg]))
    simp only [List.mapM_cons, Sem.run_bind, run_sz hn, Result.andThen_ok, Sem.run_pure, ih]
    simp [hn]
theorem build_struct (h : SimAt G s a w A τ) {fs : Array Field} (hfs : fs.all (fun f => (szOf P f.type).isSome) = true) {ps : Array (Nat × Operand)} {ps' : List (Nat × Nat × Opd)} {l : List (Nat × List AC)}
    (hp : places P fs ps.toList = some ps') (hl : parts s.env ps' = some l) {z : Array Value} {z' : List AC} (hz : All2 (CRel A τ w) z' z.toList) (hb : ∀ p ∈ l, p.1 + p.2.length ≤ z'.length) :
    ∃ xs, (do
      let places ← fs.mapM fun f => do pure (f.offset, ← sizeOf f.type)
      let some cells := Instr.fill (places[·]?) z (ps.map fun (i, x) => (i, a.eval x)).toList | stuck "build: no such field, or a part of the wrong size"
      pure (Value.agg cells) : Sem Value).run P w = .ok (.agg ⟨xs⟩) w ∧ All2 (CRel A τ w) (fillC z' l) xs := by
  have hall : ∀ f ∈ fs.toList, (szOf P f.type).isSome = true := fun f hf => by
    have := Array.all_eq_true'.1 hfs f (Array.mem_toList_iff.1 hf)
    exact this
  have hmap : (fs.mapM (fun f => do pure (f.offset, ← sizeOf f.type)) : Sem (Array (Nat × Nat))).run P w = .ok ⟨fs.toList.map fun f => (f.offset, (szOf P f.type).getD 0)⟩ w := by
    have := run_mapM_places (P := P) (w := w) fs.toList hall
    rw [Array.mapM_eq_mapM_toList]
    simp only [Sem.run_map, this, Result.andThen_ok]
  have hparts := parts_sound (P := P) h hp hl
  obtain ⟨ys, hy1, hy2⟩ := fill_sound (A := A) (τ := τ) (w := w) (place := fun i => (⟨fs.toList.map fun f => (f.offset, (szOf P f.type).getD 0)⟩ : Array (Nat × Nat))[i]?) (z := z') (xs := z.toList)
    (hparts.mono (fun p q hpq => ⟨by
      obtain ⟨h1, _⟩ := hpq
      obtain ⟨f, hf, h1⟩ := bind_some' h1
      obtain ⟨n, hn, h1⟩ := map_some' h1
      simp only [List.getElem?_toArray, List.getElem?_map, Array.getElem?_toList, hf, Option.map_some, hn, Option.getD_some]
      exact congrArg some h1, hpq.2⟩)) hz hb
  refine ⟨ys, ?_, hy2⟩
  simp only [Sem.run_bind, hmap, Result.andThen_ok]
  have e : (ps.map fun (i, x) => (i, a.eval x)).toList = ps.toList.map fun p => (p.1, a.eval p.2) := by simp
  rw [e]
  simp only [Array.toArray_toList] at hy1
  rw [hy1]
  rfl
theorem partsA_sound (h : SimAt G s a w A τ) {n : Nat} : ∀ {ps : List (Nat × Operand)} {ps' : List (Nat × Nat × Opd)} {l : List (Nat × List AC)}, placesA n ps = some ps' → parts s.env ps' = some l →
    All2 (fun (p : Nat × List AC) (q : Nat × Value) => some (q.1 * n, n) = some (p.1, p.2.length) ∧ All2 (CRel A τ w) p.2 q.2.cells.toList) l (ps.map fun p => (p.1, a.eval p.2))
  | [], ps', l, hp, hl => by
    simp [placesA] at hp; subst hp; simp [parts] at hl; subst hl; exact .nil
  | (i, x) :: ps, ps', l, hp, hl => by
    simp only [placesA] at hp
    obtain ⟨y, hy, hp⟩ := bind_some' hp
    obtain ⟨ps2, hp2, rfl⟩ := map_some' hp
    simp only [parts] at hl
    split at hl
    · rename_i cs hcs
      split at hl
      · rename_i hlen
        obtain ⟨l2, hl2, rfl⟩ := map_some' hl
        refine .cons ⟨?_, ?_⟩ (partsA_sound h hp2 hl2)
        · simp [hlen]
        · exact asCells_sound (opd_sound h hy) hcs
      · cases hl
    · cases hl
theorem build_array (h : SimAt G s a w A τ) {n : Nat} {ps : Array (Nat × Operand)} {ps' : List (Nat × Nat × Opd)} {l : List (Nat × List AC)}
    (hp : placesA n ps.toList = some ps') (hl : parts s.env ps' = some l) {z : Array Value} {z' : List AC} (hz : All2 (CRel A τ w) z' z.toList) (hb : ∀ p ∈ l, p.1 + p.2.length ≤ z'.length) :
    ∃ xs, (do
      let some cells := Instr.fill (fun i => some (i * n, n)) z (ps.map fun (i, x) => (i, a.eval x)).toList | stuck "build: a part of the wrong size"
      pure (Value.agg cells) : Sem Value).run P w = .ok (.agg ⟨xs⟩) w ∧ All2 (CRel A τ w) (fillC z' l) xs := by
  have hparts := partsA_sound h hp hl
  obtain ⟨ys, hy1, hy2⟩ := fill_sound (A := A) (τ := τ) (w := w) (place := fun i => some (i * n, n)) (z := z') (xs := z.toList) hparts hz hb
  refine ⟨ys, ?_, hy2⟩
  have e : (ps.map fun (i, x) => (i, a.eval x)).toList = ps.toList.map fun p => (p.1, a.eval p.2) := by simp
  rw [e]
  simp only [Array.toArray_toList] at hy1
  rw [hy1]
  rfl
theorem take_flat {α : Type} (n : Nat) : ∀ (rows : List (List α)), (∀ r ∈ rows, r.length = n) → ∀ (i : Nat), i ≤ rows.length → (rows.take i).flatten = rows.flatten.take (i * n)
  | rows, _, 0, _ => by simp
  | [], _, i + 1, h => by simp at h
  | r0 :: rows, hs, i + 1, h => by
    have h0 := hs r0 (by simp)
    have ih := take_flat n rows (fun q hq => hs q (by simp [hq])) i (by simpa using h)
    have e1 : (i + 1) * n = r0.length + i * n := by rw [Nat.add_mul, Nat.one_mul, h0]; omega
    simp only [List.take_succ_cons, List.flatten_cons, ih, e1, List.take_length_add_append]
theorem drop_flat {α : Type} (n : Nat) : ∀ (rows : List (List α)), (∀ r ∈ rows, r.length = n) → ∀ (i : Nat), i ≤ rows.length → (rows.drop i).flatten = rows.flatten.drop (i * n)
  | rows, _, 0, _ => by simp
  | [], _, i + 1, h => by simp at h
  | r0 :: rows, hs, i + 1, h => by
    have h0 := hs r0 (by simp)
    have ih := drop_flat n rows (fun q hq => hs q (by simp [hq])) i (by simpa using h)
    have e1 : (i + 1) * n = r0.length + i * n := by rw [Nat.add_mul, Nat.one_mul, h0]; omega
    simp only [List.drop_succ_cons, List.flatten_cons, ih, e1, List.drop_length_add_append]
theorem All2.mapL' {α β γ : Type} {R : α → β → Prop} {S : γ → β → Prop} {f : α → γ} {az : List α} {bs : List β} (h : All2 R az bs) (k : ∀ a b, R a b → S (f a) b) : All2 S (az.map f) bs := by
  induction h with
  | nil => exact .nil
  | cons h _ ih => exact .cons (k _ _ h) ih
def Bd (v : Option Value) (d n : Int) : Prop := (v = none ∧ n = d) ∨ ∃ k, v = some (.int k n)
theorem bnd_sound (h : SimAt G s a w A τ) {o : Option Operand} {x : Option Opd} (ho : opdO o = some x) {d n : Int} (hb : bndI s.env d x = some n) : Bd (o.map a.eval) d n ∧ (x.isSome = o.isSome) := by
  cases o with
  | none =>
    simp only [opdO] at ho; cases ho
    simp only [bndI] at hb; cases hb
    exact ⟨.inl ⟨rfl, rfl⟩, rfl⟩
  | some o =>
    simp only [opdO] at ho
    obtain ⟨y, hy, rfl⟩ := map_some' ho
    have h1 := opd_sound h hy
    simp only [bndI] at hb
    split at hb
    · rename_i k m hg
      rw [hg] at h1
      cases hb
      exact ⟨.inr ⟨k, by rw [Option.map_some, int_inv h1]⟩, rfl⟩
    · cases hb
theorem run_bound {x : Value} {k : IntKind} {n : Int} {y : Nat} {c : BoundsCode} (hx : x = .int k n) (h0 : 0 ≤ n) (h1 : n ≤ y) : (Instr.sliceBound x y c).run P w = .ok n.toNat w := by
  subst hx
  simp [Instr.sliceBound, asIntOf, h0, h1]
theorem run_bounds {b : Bool} {len cap : Nat} {lo hi mx : Option Value} {l h m : Int} (hl : Bd lo 0 l) (hh : Bd hi len h) (hm : Bd mx cap m) (hn : hi = none → mx = none)
    (h0 : 0 ≤ l) (h1 : l ≤ h) (h2 : h ≤ m) (h3 : m ≤ cap) : (Instr.sliceBounds b len cap lo hi mx).run P w = .ok (l.toNat, h.toNat, m.toNat) w := by
  rcases hm with ⟨rfl, rfl⟩ | ⟨km, rfl⟩
  · rcases hh with ⟨rfl, rfl⟩ | ⟨kh, rfl⟩
    · rcases hl with ⟨rfl, rfl⟩ | ⟨kl, rfl⟩
      · simp [Instr.sliceBounds]
      · simp [Instr.sliceBounds, run_bound (P := P) (w := w) (x := .int kl l) rfl h0 h1]
    · have e1 : ∀ c, (Instr.sliceBound (.int kh h) cap c).run P w = .ok h.toNat w := fun c => run_bound rfl (by omega) (by omega)
      rcases hl with ⟨rfl, rfl⟩ | ⟨kl, rfl⟩
      · simp [Instr.sliceBounds, e1]
      · have e2 : ∀ c, (Instr.sliceBound (.int kl l) h.toNat c).run P w = .ok l.toNat w := fun c => run_bound rfl (by omega) (by omega)
        simp [Instr.sliceBounds, e1, e2]
  · have e0 : ∀ c, (Instr.sliceBound (.int km m) cap c).run P w = .ok m.toNat w := fun c => run_bound rfl (by omega) (by omega)
    rcases hh with ⟨rfl, rfl⟩ | ⟨kh, rfl⟩
    · cases hn rfl
    · have e1 : ∀ c, (Instr.sliceBound (.int kh h) m.toNat c).run P w = .ok h.toNat w := fun c => run_bound rfl (by omega) (by omega)
      rcases hl with ⟨rfl, rfl⟩ | ⟨kl, rfl⟩
      · simp [Instr.sliceBounds, e0, e1]
      · have e2 : ∀ c, (Instr.sliceBound (.int kl l) h.toNat c).run P w = .ok l.toNat w := fun c => run_bound rfl (by omega) (by omega)
        simp [Instr.sliceBounds, e0, e1, e2]
theorem run_slice {t e : TypeId} (hu : P.underlying t = some (.slice e)) {n : Nat} (hn : szOf P e = some n) {base : Option Addr} {len cap : Nat} {lo hi mx : Option Value} {l h m : Int}
    (hl : Bd lo 0 l) (hh : Bd hi len h) (hm : Bd mx cap m) (hno : hi = none → mx = none) (h0 : 0 ≤ l) (h1 : l ≤ h) (h2 : h ≤ m) (h3 : m ≤ cap) :
    (Instr.sliceAt t (.slice base len cap) lo hi mx).run P w = .ok (.slice (if m.toNat = l.toNat then base else base.map (·.add (l.toNat * n))) (h.toNat - l.toNat) (m.toNat - l.toNat)) w := by
  have := run_bounds (P := P) (w := w) (b := true) hl hh hm hno h0 h1 h2 h3
  simp only [Instr.sliceAt, Instr.slice, Sem.run_bind, run_und hu, Result.andThen_ok, this, run_sz hn, Sem.run_pure]
theorem run_sliceA {t e : TypeId} {k : Nat} (hu : P.underlying t = some (.array k e)) {n : Nat} (hn : szOf P e = some n) {ad : Addr} {lo hi mx : Option Value} {l h m : Int}
    (hl : Bd lo 0 l) (hh : Bd hi k h) (hm : Bd mx k m) (hno : hi = none → mx = none) (h0 : 0 ≤ l) (h1 : l ≤ h) (h2 : h ≤ m) (h3 : m ≤ k) :
    (Instr.sliceAt t (.pointer (some ad)) lo hi mx).run P w = .ok (.slice (some (if m.toNat = l.toNat then ad else ad.add (l.toNat * n))) (h.toNat - l.toNat) (m.toNat - l.toNat)) w := by
  have := run_bounds (P := P) (w := w) (b := false) hl hh hm hno h0 h1 h2 h3
  simp only [Instr.sliceAt, Sem.run_bind, run_und hu, Result.andThen_ok, this, run_sz hn, Sem.run_pure, Instr.sureAddr]
theorem room_le (h : SimAt G s a w A τ) {t o n len : Nat} {cap : Option Nat} {base : Option Addr} {c : Nat} (hr : CRel A τ w (.msl t o n len cap) (.slice base len c)) : roomOf s.σ t o n len cap ≤ c := by
  cases hr with | c0 hr => cases hr with
    | mslN _ _ _ _ b hτ hc =>
      cases cap with
      | some k => have := hc k rfl; simp [roomOf, this]
      | none =>
        simp only [roomOf]
        split
        · rename_i m s2 rows hold
          have ho := h.obj t
          rw [hold] at ho
          obtain ⟨_, _, ⟨_, rfl⟩ | ⟨b', xs, e, g1, _⟩⟩ := ho
          · split <;> simp
          · rw [hτ] at g1; cases g1
        · simp
    | msl _ _ _ _ b _ _ hτ hc hl hr =>
      obtain ⟨cs, e, h1, h2, h3⟩ := hr
      cases cap with
      | some k => have := hc k rfl; simp [roomOf, this]
      | none =>
        have h4 := h3 rfl
        simp only [roomOf]
        split
        · rename_i m s2 rows hold
          split
          · rename_i hs
            obtain ⟨rfl, hs0⟩ := hs
            have ho := h.obj t
            rw [hold] at ho
            obtain ⟨_, _, ⟨g, _⟩ | ⟨b', xs, e', g1, g2, g3, _⟩⟩ := ho
            · rw [hτ] at g; cases g
            · rw [hτ] at g1; cases g1
              rw [h1] at g2; cases g2
              have h5 : rows.length * s2 ≤ (o + c) * s2 := by omega
              have h6 := Nat.le_of_mul_le_mul_right h5 (Nat.pos_of_ne_zero hs0)
              omega
          · exact hl
        · exact hl
theorem slcC_sound (h : SimAt G s a w A τ) {t o n len : Nat} {cap : Option Nat} {base : Option Addr} {c : Nat} (hr : CRel A τ w (.msl t o n len cap) (.slice base len c)) {l h' m : Nat} {mo : Option Nat}
    (hm : (mo = none ∧ m = c) ∨ mo = some m) (h1 : l ≤ h') (h2 : h' ≤ m) (h3 : m ≤ c) :
    CRel A τ w (slcC t o n l h' cap mo) (.slice (if m = l then base else base.map (·.add (l * n))) (h' - l) (m - l)) := by
  have nilr : ∀ (b : Option Addr) k, CRel A τ w (.p (.sl [])) (.slice b 0 k) := fun b k => .c0 (.p _ _ (.nil b k))
  cases hr with | c0 hr => cases hr with
    | mslN _ _ _ _ b hτ hc =>
      have hm0 : m = 0 := by omega
      have hl0 : l = 0 := by omega
      have hh0 : h' = 0 := by omega
      subst hm0 hl0 hh0
      rcases hm with ⟨rfl, _⟩ | rfl
      · simp only [slcC, if_true, Nat.sub_self]
        exact .c0 (.mslN t o n cap base hτ hc)
      · simp only [slcC, if_true, Nat.sub_self]
        exact .c0 (.mslN t o n (some 0) base hτ (fun k hk => by cases hk; rfl))
    | msl _ _ _ _ b _ _ hτ hc hl hr =>
      obtain ⟨cs, e, r1, r2, r3⟩ := hr
      have hoc : ∀ k, k ≤ c → (o + k) * n ≤ cs.size := fun k hk => Nat.le_trans (Nat.mul_le_mul_right n (by omega)) r2
      have zero : CRel A τ w (.msl t o n 0 (some 0)) (.slice (some ⟨b, o * n, none⟩) 0 0) :=
        .c0 (.msl t o n 0 b 0 (some 0) hτ (fun k hk => by cases hk; rfl) (Nat.le_refl 0) ⟨cs, e, r1, hoc 0 (Nat.zero_le _), fun hk => by cases hk⟩)
      have part : ∀ (k : Nat) (cp : Option Nat), l + k ≤ c → h' - l ≤ k → (∀ q, cp = some q → k = q) → (cp = none → l + k = c ∧ cap = none) →
          CRel A τ w (.msl t (o + l) n (h' - l) cp) (.slice (some ((⟨b, o * n, none⟩ : Addr).add (l * n))) (h' - l) k) := by
        intro k cp hk hhk hq hnone
        rw [add_eq, ← Nat.add_mul]
        refine .c0 (.msl t (o + l) n (h' - l) b k cp hτ hq hhk ⟨cs, e, r1, by rw [Nat.add_assoc]; exact hoc _ hk, fun hk' => ?_⟩)
        obtain ⟨e1, e2⟩ := hnone hk'
        rw [Nat.add_assoc, e1]; exact r3 e2
      rcases hm with ⟨rfl, rfl⟩ | rfl
      · simp only [slcC]
        split
        · rename_i hl0
          subst hl0
          simp only [Nat.sub_zero]
          have : (if m = 0 then some (⟨b, o * n, none⟩ : Addr) else (some (⟨b, o * n, none⟩ : Addr)).map (·.add (0 * n))) = some ⟨b, o * n, none⟩ := by
            split
            · rfl
            · rw [Nat.zero_mul, Option.map_some, add_eq]; rfl
          rw [this]
          exact .c0 (.msl t o n h' b m cap hτ hc h2 ⟨cs, e, r1, r2, r3⟩)
        · rename_i hl0
          split
          · rename_i hlt
            rw [if_neg (by omega)]
            refine part (m - l) _ (by omega) (by omega) (fun q hq => ?_) (fun hn => ⟨by omega, by cases cap with | none => rfl | some k => cases hn⟩)
            cases cap with
            | none => cases hq
            | some k => have := hc k rfl; simp only [Option.map_some, Option.some.injEq] at hq; omega
          · have hlh : h' = l := by omega
            subst hlh
            cases cap with
            | none => simp only [Nat.sub_self]; exact nilr _ _
            | some k =>
              obtain rfl := hc k rfl
              simp only
              split
              · rename_i hk; rw [if_pos hk.symm, Nat.sub_self]; subst hk; rw [Nat.sub_self]; exact zero
              · rename_i hk
                rw [if_neg (fun e => hk e.symm)]
                have := part (m - h') (some (m - h')) (by omega) (by omega) (fun q hq => by cases hq; rfl) (fun hn => by cases hn)
                simpa using this
      · simp only [slcC]
        split
        · rename_i hlm
          subst hlm
          have hlh : h' = l := by omega
          subst hlh
          rw [if_pos rfl, Nat.sub_self]; exact zero
        · rename_i hlm
          rw [if_neg (fun e => hlm e.symm)]
          exact part (m - l) (some (m - l)) (by omega) (by omega) (fun q hq => by cases hq; rfl) (fun hn => by cases hn)
theorem slc_pure {rows : List (List PV)} {base : Option Addr} {len c n : Nat} (hr : PRel A w (.sl rows) (.slice base len c)) (hall : rows.all (fun r => r.length == n) = true) {l h' m : Nat} (h1 : l ≤ h') (h2 : h' ≤ m) (h3 : h' ≤ rows.length) :
    PRel A w (.sl ((rows.drop l).take (h' - l))) (.slice (if m = l then base else base.map (·.add (l * n))) (h' - l) (m - l)) := by
  have hs : ∀ r ∈ rows, r.length = n := fun r hr => by simpa using List.all_eq_true.1 hall r hr
  have hlen : ((rows.drop l).take (h' - l)).length = h' - l := by simp; omega
  by_cases h0 : h' - l = 0
  · have : (rows.drop l).take (h' - l) = [] := by rw [h0]; rfl
    rw [this, h0]
    exact .nil _ _
  · cases hr with
    | nil => simp at h3; omega
    | sl _ b off cap s' hA hs' hl hc hat =>
      rw [if_neg (by omega), Option.map_some, add_eq]
      have hat2 : PAt A w ((rows.drop l).take (h' - l)).flatten b (off + l * n) := by
        have h4 := PAt.part hat (l * n) ((h' - l) * n)
        have e : ((rows.drop l).take (h' - l)).flatten = (rows.flatten.drop (l * n)).take ((h' - l) * n) := by
          rw [take_flat n (rows.drop l) (fun r hr => hs r (List.mem_of_mem_drop hr)) (h' - l) (by simp; omega), drop_flat n rows hs l (by omega)]
        rw [e]
        exact h4
      have := Rel.sl (A := A) (w := w) ((rows.drop l).take (h' - l)) b (off + l * n) (m - l) n hA (fun r hr => hs r (List.mem_of_mem_drop (List.mem_of_mem_take hr))) (by rw [hlen]; omega) (by rw [hlen]; omega) hat2
      rw [hlen] at this
      exact this
theorem findE_sound {es : List (Int × Bool × List PV)} {xs : List MapEntry} (h : Rel A w (.en es xs)) (n : Int) : ∀ (i : Nat),
    match findE n es with
    | some r => ∃ j x, Instr.findNow (.int .i64) (.int .i64 n) xs i = some (some (j, x)) ∧ ∀ v, entV r = some v → VRel A τ w v x ∧ V1 A τ w v x
    | none => Instr.findNow (.int .i64) (.int .i64 n) xs i = some none := by
  induction es generalizing xs with
  | nil => intro i; cases h; simp [findE, Instr.findNow]
  | cons p es ih =>
    intro i
    cases h with
    | enOne k c x born es xs h t =>
      simp only [findE]
      by_cases hk : k = n
      · subst hk
        simp only [if_true]
        refine ⟨i, x, by simp [Instr.findNow, Instr.sameNow], fun v hv => ?_⟩
        simp only [entV] at hv; cases hv
        have : V1 A τ w (.one (.p c)) x := .one (.c0 (.p _ _ h))
        exact ⟨.v1 this, this⟩
      · rw [if_neg hk]
        have hk2 : (n == k) = false := by simpa using fun e => hk e.symm
        have := ih t (i + 1)
        simpa [Instr.findNow, Instr.sameNow, hk2] using this
    | enAgg k cs vs born es xs h t =>
      simp only [findE]
      by_cases hk : k = n
      · subst hk
        simp only [if_true]
        refine ⟨i, .agg ⟨vs⟩, by simp [Instr.findNow, Instr.sameNow], fun v hv => ?_⟩
        simp only [entV] at hv; cases hv
        have : V1 A τ w (.agg (cs.map .p)) (.agg ⟨vs⟩) := .agg ((PRels.all2.1 h).mapL' fun v x hr => .c0 (.p v x hr))
        exact ⟨.v1 this, this⟩
      · rw [if_neg hk]
        have hk2 : (n == k) = false := by simpa using fun e => hk e.symm
        have := ih t (i + 1)
        simpa [Instr.findNow, Instr.sameNow, hk2] using this
def ovlB (n : Nat) (a b : Option Addr) (la lb : Nat) : Sem Value := do
  match a, b with
  | some a, some b =>
    if la = 0 ∨ lb = 0 ∨ n = 0 then pure (Value.bool false)
    else if a.block != b.block && (← frozen a) && (← frozen b) then unsupported .addressObserved
    else do
      if a.block != b.block then do
        noView a; noView b
        if ← mayBeOne a b then return Value.bool ((← choose (.extern "sameAddr.stringBytes" 2)) == 1)
      pure (Value.bool (a.block == b.block && a.off < b.off + lb * n && b.off < a.off + la * n))
  | _, _ => pure (Value.bool false)
theorem run_ovl {params results : Array TypeId} {t0 e : TypeId} {n : Nat} (hp0 : params[0]? = some t0) (hu : P.underlying t0 = some (.slice e)) (hsz : szOf P e = some n) (a b : Option Addr) (la ca lb cb : Nat) :
    (Extern.SlicesOverlaps.overlaps params results #[.slice a la ca, .slice b lb cb]).run P w = (ovlB n a b la lb).run P w := by
  change Sem.run P (α := Value) (do
    let some t := params[0]? | stuck "slices.overlaps: no parameter types"
    let .slice elem ← underlying t | stuck "slices.overlaps: slice type expected"
    let size ← sizeOf elem
    ovlB size a b la lb) w = _
  simp only [hp0, Sem.run_bind, run_und hu, Result.andThen_ok, run_sz hsz]
theorem entries_sound (h : SimAt G s a w A τ) {x : Opd} {v : Value} (h1 : VRel A τ w (get s.env x) v) {es : List (Int × Bool × List PV)} (hes : entriesOf s.env s.σ x = some es) :
    ∃ b ces clock, v = .map (some b) ∧ w.heap[b]? = some (.map ces clock) ∧ Rel A w (.en es ces.toList) := by
  unfold entriesOf at hes
  split at hes
  · rename_i es' hr
    rw [hr] at h1
    cases hes
    cases p_inv h1 with
    | map _ b ces clock hA hb hen => exact ⟨b, ces, clock, rfl, hb, hen⟩
  · rename_i t' hr
    rw [hr] at h1
    split at hes
    · rename_i mu es' hold
      cases hes
      cases one_inv h1 with | c0 h3 => cases h3 with | mmap _ b hτ =>
        have ho := h.obj t'
        rw [hold] at ho
        obtain ⟨b', ces, clock, g1, g2, g3, _⟩ := ho
        rw [hτ] at g1; cases g1
        exact ⟨b, ces, clock, rfl, g2, g3⟩
    · cases hes
  · cases hes
theorem en_len {es : List (Int × Bool × List PV)} {xs : List MapEntry} (h : Rel A w (.en es xs)) : xs.length = es.length := by
  induction es generalizing xs with
  | nil => cases h; rfl
  | cons p es ih =>
    cases h with
    | enOne k c x born es xs h t => simp [ih t]
    | enAgg k cs vs born es xs h t => simp [ih t]
theorem compQ_sound {o : Oper} {q : QOp} {v : AV} (hc : compQ P o.op = some q) (h : SimAt G s a w A τ) (he : evQ q s.env s.σ = some v) : Gives P a w A τ o v := by
  obtain ⟨dst, op, type, pos, after, guard⟩ := o
  simp only at hc
  unfold Gives
  cases op <;> simp only [compQ] at hc <;> (try (cases hc; done))
  case move x =>
    obtain ⟨x', hx, rfl⟩ := map_some' hc
    simp only [evQ] at he; cases he
    exact ⟨_, rfl, opd_sound h hx⟩
  case assign x =>
    obtain ⟨x', hx, rfl⟩ := map_some' hc
    simp only [evQ] at he; cases he
    exact ⟨_, rfl, opd_sound h hx⟩
  case pick c x y =>
    obtain ⟨c', hc', hc⟩ := bind_some' hc
    obtain ⟨x', hx, hc⟩ := bind_some' hc
    obtain ⟨y', hy, rfl⟩ := map_some' hc
    have h1 := opd_sound h hc'
    simp only [evQ] at he
    split at he
    · rename_i t ht
      rw [ht] at h1
      have := bool_inv h1
      cases he
      refine ⟨if t then a.eval x else a.eval y, ?_, ?_⟩
      · simp [execOp, this, asBool]
      · cases t
        · exact opd_sound h hy
        · exact opd_sound h hx
    · cases he
  case load t x =>
    obtain ⟨n, hn, hc⟩ := bind_some' hc
    obtain ⟨g, hg, hc⟩ := bind_some' hc
    obtain ⟨x', hx, rfl⟩ := map_some' hc
    have h1 := opd_sound h hx
    simp only [evQ] at he
    split at he
    · rename_i cells hcells
      rw [hcells] at h1
      obtain ⟨b, off, e1, hA, hat⟩ := box_inv h1
      obtain ⟨z, hz, hv⟩ := ldP_sound (P := P) (τ := τ) hn hg hat he
      exact ⟨z, by simp [execOp, Instr.loadAt, Instr.sureAddr, e1, hz], hv⟩
    · rename_i t' i s' off hp
      rw [hp] at h1
      obtain ⟨b, e1, hb⟩ := ptr_inv h1
      obtain ⟨z, hz, hv⟩ := ldO_sound (P := P) hn hg (h.obj t') hb he
      exact ⟨z, by simp [execOp, Instr.loadAt, Instr.sureAddr, e1, hz], hv⟩
    · cases he
  case nilCheck x =>
    obtain ⟨x', hx, rfl⟩ := map_some' hc
    have h1 := opd_sound h hx
    simp only [evQ] at he
    split at he
    · rename_i c hc'
      rw [hc'] at h1
      split at he
      · rename_i hn
        cases he
        refine ⟨_, ?_, h1⟩
        rcases nil_sound (one_inv h1) hn with ⟨h2, _⟩ | ⟨_, ⟨a', l, k, e⟩ | ⟨f, u, v, e⟩ | ⟨t, v, e⟩ | ⟨a', e⟩⟩
        · cases h2
        all_goals (simp only [execOp, e]; rfl)
      · cases he
    · cases he
  case binOp op xt x y yt =>
    obtain ⟨x', hx, hc⟩ := bind_some' hc
    obtain ⟨y', hy, hc⟩ := bind_some' hc
    have h1 := opd_sound h hx
    have h2 := opd_sound h hy
    have plain : ∀ q', q = q' → q' = .bin op x' y' → ∃ z, (execOp a.eval ⟨dst, .binOp op xt x y yt, type, pos, after, guard⟩).run P w = .ok (.value z) w ∧ VRel A τ w v z := by
      rintro _ rfl rfl
      simp only [evQ] at he
      obtain ⟨e1, e2, z, hz, hv⟩ := bin_sound (P := P) h1 h2 he xt
      refine ⟨z, ?_, hv⟩
      simp only [execOp, Sem.run_bind, guard_plain e1 (fun h => absurd h e2), Result.andThen_ok, hz, Sem.run_pure]
    have eqs : op = .eql ∨ op = .neq → (match P.underlying xt with
      | some (.int _) => some (.bin op x' y')
      | some .bool => some (.eqB (isNeq op) x' y')
      | some (.slice _) => some (.eqN 0 (isNeq op) x' y')
      | some (.func _ _ _) => some (.eqN 1 (isNeq op) x' y')
      | some (.interface _) => if isConstO x || isConstO y then some (.eqN 2 (isNeq op) x' y') else none
      | _ => none) = some q → ∃ z, (execOp a.eval ⟨dst, .binOp op xt x y yt, type, pos, after, guard⟩).run P w = .ok (.value z) w ∧ VRel A τ w v z := by
      intro hop hq
      have nilcase : ∀ d kd, P.underlying xt = some d → kdOf d = some kd → (kd = 2 → (isConstO x || isConstO y) = true) →
          q = .eqN kd (isNeq op) x' y' → ∃ z, (execOp a.eval ⟨dst, .binOp op xt x y yt, type, pos, after, guard⟩).run P w = .ok (.value z) w ∧ VRel A τ w v z := by
        intro d kd hd hkd hkind hq
        subst hq
        simp only [evQ] at he
        split at he
        · rename_i c e hc1 hc2
          rw [hc1] at h1; rw [hc2] at h2
          have k1 := one_inv h1
          have k2 := one_inv h2
          have main : ∀ a' b', isNilK kd c = some a' → isNilK kd e = some b' → (a' = true ∨ b' = true) → v = pbool (if isNeq op then !(a' == b') else a' == b') →
              ∃ z, (execOp a.eval ⟨dst, .binOp op xt x y yt, type, pos, after, guard⟩).run P w = .ok (.value z) w ∧ VRel A τ w v z := by
            intro a' b' e1 e2 hab hv
            subst hv
            have hrun := nil_run hd hkd k1 k2 e1 e2 hab 9999
            have hg : (eqGuard op xt x y (a.eval x) (a.eval y)).run P w = .ok () w := by
              have n1 := nilK_sound k1 e1
              refine guard_plain (fun us h => ?_) (fun h _ => ?_)
              · rw [h] at n1; simp at n1
              · rw [h] at n1
                simp at n1
                have := hkind n1.1
                simp only [isConstO] at this
                exact this
            refine ⟨_, ?_, pbool_rel _⟩
            have hb : ∀ r, (Op.equal xt (a.eval x) (a.eval y)).run P w = .ok r w → (binOp op xt (a.eval x) (a.eval y)).run P w = .ok (.bool (if isNeq op then !r else r)) w := by
              intro r hr
              have n1 := nilK_sound k1 e1
              have n2 := nilK_sound k2 e2
              rcases hop with rfl | rfl <;> simp only [isNeq] <;>
                rcases n1 with ⟨_, ⟨_, e⟩ | ⟨_, _, _, _, e⟩⟩ | ⟨_, ⟨_, e⟩ | ⟨_, _, _, _, e⟩⟩ | ⟨_, ⟨_, e⟩ | ⟨_, _, _, e⟩⟩ <;> rw [e] at hr ⊢ <;>
                rcases n2 with ⟨_, ⟨_, e⟩ | ⟨_, _, _, _, e⟩⟩ | ⟨_, ⟨_, e⟩ | ⟨_, _, _, _, e⟩⟩ | ⟨_, ⟨_, e⟩ | ⟨_, _, _, e⟩⟩ <;> rw [e] at hr ⊢ <;>
                simp [binOp, hr]
            simp only [execOp, Sem.run_bind, hg, Result.andThen_ok, hb _ hrun, Sem.run_pure]
          unfold evNil at he
          split at he
          · rename_i a' e1 e2
            cases he
            exact main a' true e1 e2 (.inr rfl) (by simp)
          · rename_i b' _ e1 e2
            cases he
            exact main true b' e1 e2 (.inl rfl) (by simp)
          · cases he
        · cases he
      split at hq
      · exact plain _ rfl (Option.some.inj hq).symm
      · rename_i hu
        cases hq
        simp only [evQ] at he
        split at he
        · rename_i b1 b2 hb1 hb2
          rw [hb1] at h1; rw [hb2] at h2
          have e1 := bool_inv h1
          have e2 := bool_inv h2
          cases he
          refine ⟨_, ?_, pbool_rel _⟩
          have hg : (eqGuard op xt x y (a.eval x) (a.eval y)).run P w = .ok () w := guard_plain (by rw [e1]; intro us h; cases h) (by rw [e1]; intro h; cases h)
          rcases hop with rfl | rfl
          · simp only [execOp, Sem.run_bind, Result.andThen_ok, e1, e2, binOp, run_eqB hu, Sem.run_pure]; rw [e1, e2] at hg; simp [hg, isNeq]
          · simp only [execOp, Sem.run_bind, Result.andThen_ok, e1, e2, binOp, run_eqB hu, Sem.run_pure]; rw [e1, e2] at hg; simp [hg, isNeq]
        · cases he
      · rename_i e hu
        exact nilcase _ 0 hu rfl (fun h => by cases h) (Option.some.inj hq).symm
      · rename_i hu
        exact nilcase _ 1 hu rfl (fun h => by cases h) (Option.some.inj hq).symm
      · rename_i hu
        split at hq
        · rename_i hcst
          exact nilcase _ 2 hu rfl (fun _ => hcst) (Option.some.inj hq).symm
        · cases hq
      · cases hq
    cases op <;> first
      | exact eqs (.inl rfl) hc
      | exact eqs (.inr rfl) hc
      | exact plain _ rfl (Option.some.inj hc).symm
  case unOp op t x =>
    obtain ⟨x', hx, rfl⟩ := map_some' hc
    have h1 := opd_sound h hx
    simp only [evQ] at he
    split at he
    · rename_i b hb
      rw [hb] at h1
      have e1 := bool_inv h1
      cases he
      exact ⟨_, by simp [execOp, e1, Op.unary], pbool_rel _⟩
    · rename_i k n hb
      rw [hb] at h1
      have e1 := int_inv h1
      cases he
      exact ⟨_, by simp [execOp, e1, Op.unary, Op.intArith], pint_rel _ _⟩
    · cases he
  case convert src dst' x =>
    split at hc
    · rename_i k0 k hs hd
      obtain ⟨x', hx, rfl⟩ := map_some' hc
      have h1 := opd_sound h hx
      simp only [evQ] at he
      split at he
      · rename_i k' n hb
        rw [hb] at h1
        have e1 := int_inv h1
        cases he
        exact ⟨_, by simp [execOp, e1, convert, run_und hs, run_und hd, Conv.intToInt], pint_rel _ _⟩
      · cases he
    · cases hc
  case makeFunc fn first caps =>
    cases fn <;> simp only [compQ] at hc <;> (try (cases hc; done))
    rename_i f
    obtain ⟨u, hu, hc⟩ := bind_some' hc
    obtain ⟨v', hv, rfl⟩ := map_some' hc
    have h1 := opds_sound h hu
    have h2 := opds_sound h hv
    simp only [evQ] at he
    split at he
    · rename_i c1 c2 g1 g2
      split at he
      · rename_i hok
        have k1 := acs_sound h1 g1
        have k2 := acs_sound h2 g2
        have hok1 : ∀ c ∈ c1, C0ok c = true := fun c hc => List.all_eq_true.1 hok c (by simp [hc])
        have hok2 : ∀ c ∈ c2, C0ok c = true := fun c hc => List.all_eq_true.1 hok c (by simp [hc])
        have run : (execOp a.eval ⟨dst, .makeFunc (.func f) first caps, type, pos, after, guard⟩).run P w = .ok (.value (.func (.func f) ⟨first.toList.map a.eval⟩ ⟨caps.toList.map a.eval⟩)) w := by
          have e1 : first.map a.eval = ⟨first.toList.map a.eval⟩ := by apply Array.ext'; simp
          have e2 : caps.map a.eval = ⟨caps.toList.map a.eval⟩ := by apply Array.ext'; simp
          simp only [execOp, Instr.makeFunc, Sem.run_bind, Sem.run_pure, Result.andThen_ok, e1, e2]
        split at he
        · rename_i p1 p2 q1 q2
          cases he
          exact ⟨_, run, .v1 (.one (.c0 (.p _ _ (.fn f _ _ _ _ (PRels.all2.2 (pvs_sound k1 q1)) (PRels.all2.2 (pvs_sound k2 q2))))))⟩
        · cases he
          exact ⟨_, run, .v1 (.one (.mfn f _ _ _ _ (c0s_sound k1 hok1) (c0s_sound k2 hok2)))⟩
      · cases he
    · cases he
  case build t ps =>
    split at hc
    · rename_i fs z hu hz
      obtain ⟨z', hz', hc⟩ := bind_some' hc
      split at hc
      · rename_i hfs
        obtain ⟨ps', hps, rfl⟩ := map_some' hc
        simp only [evQ] at he
        split at he
        · rename_i l hl
          split at he
          · rename_i hall
            cases he
            obtain ⟨i, hi, hz2⟩ : ∃ i, P.info? t = some i ∧ i.zero = some z := bind_some' hz
            obtain ⟨xs, hx1, hx2⟩ := build_struct h hfs hps hl (z := z.cells) (constACs_sound hz') (fun p hp => by simpa using List.all_eq_true.1 hall p hp)
            refine ⟨_, ?_, .v1 (.agg hx2)⟩
            simp only [Sem.run_bind] at hx1
            simp only [execOp, Instr.build, Sem.run_bind, run_und hu, Result.andThen_ok, zeroValue, run_ti hi, hz2, Sem.run_pure]
            exact congrArg (fun r : Result Value => r.andThen fun a w' => Result.ok (Next.value a) w') hx1
          · cases he
        · cases he
      · cases hc
    · rename_i len e z hu hz
      obtain ⟨z', hz', hc⟩ := bind_some' hc
      obtain ⟨n, hn, hc⟩ := bind_some' hc
      obtain ⟨ps', hps, rfl⟩ := map_some' hc
      simp only [evQ] at he
      split at he
      · rename_i l hl
        split at he
        · rename_i hall
          cases he
          obtain ⟨i, hi, hz2⟩ : ∃ i, P.info? t = some i ∧ i.zero = some z := bind_some' hz
          obtain ⟨xs, hx1, hx2⟩ := build_array h hps hl (z := z.cells) (constACs_sound hz') (fun p hp => by simpa using List.all_eq_true.1 hall p hp)
          refine ⟨_, ?_, .v1 (.agg hx2)⟩
          simp only [execOp, Instr.build, Sem.run_bind, run_und hu, Result.andThen_ok, zeroValue, run_ti hi, hz2, Sem.run_pure, run_sz hn]
          exact congrArg (fun r : Result Value => r.andThen fun a w' => Result.ok (Next.value a) w') hx1
        · cases he
      · cases he
    · cases hc
  case fieldAddr t x f =>
    split at hc
    · rename_i fs hu
      obtain ⟨fl, hf, hc⟩ := bind_some' hc
      obtain ⟨n, hn, hc⟩ := bind_some' hc
      split at hc
      · cases hc
      · rename_i hn0
        obtain ⟨x', hx, rfl⟩ := map_some' hc
        have h1 := opd_sound h hx
        simp only [evQ] at he
        have run : ∀ b off, a.eval x = .pointer (some ⟨b, off, none⟩) →
            (execOp a.eval ⟨dst, .fieldAddr t x f, type, pos, after, guard⟩).run P w = .ok (.value (.pointer (some ⟨b, off + fl.offset, none⟩))) w := by
          intro b off e1
          simp [execOp, Instr.fieldAt, run_und hu, hf, e1, Instr.sureAddr, fieldPlace, run_sz hn, hn0, add_eq]
        split at he
        · rename_i cells hb
          rw [hb] at h1
          obtain ⟨b, off, e1, hA, hat⟩ := box_inv h1
          cases he
          exact ⟨_, run b off e1, boxrel hA (hat.dropAt _)⟩
        · rename_i t' i s' o' hb
          rw [hb] at h1
          obtain ⟨b, e1, hb'⟩ := ptr_inv h1
          cases he
          refine ⟨_, run b _ e1, ?_⟩
          have := C0.ptr (A := A) (w := w) t' i s' (o' + fl.offset) b hb'
          rw [← Nat.add_assoc] at this
          exact .v1 (.one (.c0 this))
        · cases he
    · cases hc
  case indexAddr t x i =>
    split at hc
    · rename_i e hu
      obtain ⟨n, hn, hc⟩ := bind_some' hc
      obtain ⟨x', hx, hc⟩ := bind_some' hc
      obtain ⟨i', hi, rfl⟩ := map_some' hc
      have h1 := opd_sound h hx
      have h2 := opd_sound h hi
      simp only [evQ] at he
      split at he
      · rename_i rows k m hr hm
        rw [hr] at h1; rw [hm] at h2
        have e2 := int_inv h2
        split at he
        · rename_i hb
          split at he
          · rename_i r hr'
            split at he
            · rename_i hl
              cases he
              have h3 := p_inv h1
              generalize hz : a.eval x = z at h3
              cases h3 with
              | nil => simp at hb; omega
              | sl _ b off cap s' hA hs hl' hcap hat =>
                obtain rfl : s' = n := (hs r (List.mem_of_getElem? hr')).symm.trans hl
                refine ⟨_, ?_, boxrel hA (row_at hs hr' hat)⟩
                simp [execOp, Instr.indexAt, e2, hz, asIntOf, run_und hu, hb.1, hb.2, run_sz hn, add_eq]
            · cases he
          · cases he
        · cases he
      · rename_i t' o' s' len cap k m hr hm
        rw [hr] at h1; rw [hm] at h2
        have e2 := int_inv h2
        split at he
        · rename_i hb
          obtain ⟨rfl, hb1, hb2⟩ := hb
          cases he
          cases one_inv h1 with
          | c0 h3 =>
            generalize hz : a.eval x = z at h3
            cases h3 with
            | mslN => simp at hb2; omega
            | msl _ _ _ _ b c _ hτ hc' hlen hroom =>
              refine ⟨.pointer (some ⟨b, (o' + m.toNat) * s' + 0, none⟩), ?_, .v1 (.one (.c0 (.ptr _ _ _ _ b hτ)))⟩
              simp [execOp, Instr.indexAt, e2, hz, asIntOf, run_und hu, hb1, hb2, run_sz hn, add_eq, Nat.add_mul]
        · cases he
      · cases he
    · rename_i len e hu
      obtain ⟨n, hn, hc⟩ := bind_some' hc
      obtain ⟨x', hx, hc⟩ := bind_some' hc
      obtain ⟨i', hi, rfl⟩ := map_some' hc
      have h1 := opd_sound h hx
      have h2 := opd_sound h hi
      simp only [evQ] at he
      have run : ∀ b off m k, a.eval x = .pointer (some ⟨b, off, none⟩) → a.eval i = .int k m → 0 ≤ m → m < (len : Int) →
          (execOp a.eval ⟨dst, .indexAddr t x i, type, pos, after, guard⟩).run P w = .ok (.value (.pointer (some ⟨b, off + m.toNat * n, none⟩))) w := by
        intro b off m k e1 e2 g1 g2
        have ht : (match TypeDesc.array len e with | .array _ _ => true | _ => false) = true := rfl
        simp [execOp, Instr.indexAt, e2, e1, asIntOf, run_und hu, Instr.sureAddr, g1, g2, run_sz hn, add_eq]
      split at he
      · rename_i t' s' k m hr hm
        rw [hr] at h1; rw [hm] at h2
        have e2 := int_inv h2
        obtain ⟨b, e1, hb'⟩ := ptr_inv h1
        split at he
        · rename_i hb
          obtain ⟨rfl, hb1, hb2⟩ := hb
          cases he
          refine ⟨_, run b _ m k e1 e2 hb1 hb2, ?_⟩
          have := C0.ptr (A := A) (w := w) t' m.toNat s' 0 b hb'
          simpa using VRel.v1 (V1.one (CRel.c0 this))
        · cases he
      · rename_i cells k m hr hm
        rw [hr] at h1; rw [hm] at h2
        have e2 := int_inv h2
        obtain ⟨b, off, e1, hA, hat⟩ := box_inv h1
        split at he
        · rename_i hb
          obtain ⟨hb1, hb2⟩ := hb
          cases he
          exact ⟨_, run b _ m k e1 e2 hb1 hb2, boxrel hA (hat.dropAt _)⟩
        · cases he
      · cases he
    · cases hc
  case extract t i =>
    obtain ⟨x', hx, rfl⟩ := map_some' hc
    have h1 := opd_sound h hx
    simp only [evQ] at he
    split at he
    · rename_i vs hb
      rw [hb] at h1
      generalize hz : a.eval t = z at h1
      cases h1 with
      | v1 h => cases h
      | tup h2 =>
        obtain ⟨y, hy, hr⟩ := h2.get i v he
        exact ⟨y, by simp [execOp, hz, Instr.extract, hy], .v1 hr⟩
    · cases he
  case slice t x l hi m =>
    split at hc
    · cases hc
    · rename_i hms
      have hno : hi = none → m = none := by
        intro e; subst e
        cases m with
        | none => rfl
        | some m => simp at hms
      have fin : ∀ {l' h' m' : Option Opd} {d1 d2 d3 : Int} {lv hv mv : Int}, opdO l = some l' → opdO hi = some h' → opdO m = some m' →
          bndI s.env d1 l' = some lv → bndI s.env d2 h' = some hv → bndI s.env d3 m' = some mv → Bd (l.map a.eval) d1 lv ∧ Bd (hi.map a.eval) d2 hv ∧ Bd (m.map a.eval) d3 mv ∧ (hi.map a.eval = none → m.map a.eval = none) :=
        fun k1 k2 k3 b1 b2 b3 => ⟨(bnd_sound h k1 b1).1, (bnd_sound h k2 b2).1, (bnd_sound h k3 b3).1, fun e => by
          cases hi with
          | none => rw [hno rfl]; rfl
          | some => cases e⟩
      split at hc
      · rename_i e hu
        obtain ⟨n, hn, hc⟩ := bind_some' hc
        obtain ⟨x', hx, hc⟩ := bind_some' hc
        obtain ⟨l', hl, hc⟩ := bind_some' hc
        obtain ⟨h', hh, hc⟩ := bind_some' hc
        obtain ⟨m', hm, rfl⟩ := map_some' hc
        have h1 := opd_sound h hx
        simp only [evQ] at he
        split at he
        · rename_i rows hr
          rw [hr] at h1
          split at he
          · rename_i lv hv mv b1 b2 b3
            split at he
            · rename_i hb
              obtain ⟨c1, c2, c3, c4, c5⟩ := hb
              cases he
              have h3 := p_inv h1
              obtain ⟨g1, g2, g3, g4⟩ := fin hl hh hm b1 b2 b3
              have hcap : ∃ base cap, a.eval x = .slice base rows.length cap ∧ rows.length ≤ cap := by
                generalize hz : a.eval x = z at h3
                cases h3 with
                | nil a' cap => exact ⟨_, _, rfl, Nat.zero_le _⟩
                | sl _ b off cap s' hA hs hl hcap hat => exact ⟨_, _, rfl, hcap⟩
              obtain ⟨base, cap, ex, hcap⟩ := hcap
              rw [ex] at h3
              rcases g3 with ⟨e0, e1⟩ | ⟨km, e0⟩
              · have run := run_slice (P := P) (w := w) hu hn (base := base) (cap := cap) g1 g2 (.inl ⟨e0, rfl⟩) g4 c1 c2 (by omega) (Int.le_refl _)
                refine ⟨_, by simp only [execOp, ex, Sem.run_bind, run, Result.andThen_ok, Sem.run_pure]; rfl, .v1 (.one (.c0 (.p _ _ ?_)))⟩
                exact slc_pure h3 c5 (by omega) (by omega) (by omega)
              · have run := run_slice (P := P) (w := w) hu hn (base := base) (cap := cap) g1 g2 (.inr ⟨km, e0⟩) g4 c1 c2 c3 (by omega)
                refine ⟨_, by simp only [execOp, ex, Sem.run_bind, run, Result.andThen_ok, Sem.run_pure]; rfl, .v1 (.one (.c0 (.p _ _ ?_)))⟩
                exact slc_pure h3 c5 (by omega) (by omega) (by omega)
            · cases he
          · cases he
        · rename_i hr
          rw [hr] at h1
          split at he
          · rename_i lv hv mv b1 b2 b3
            split at he
            · rename_i hb
              obtain ⟨rfl, rfl, rfl⟩ := hb
              cases he
              obtain ⟨g1, g2, g3, g4⟩ := fin hl hh hm b1 b2 b3
              have ex : a.eval x = .slice none 0 0 := by
                have h3 := one_inv h1
                generalize hz : a.eval x = z at h3
                cases h3 with | c0 h3 => cases h3; rfl
              have run := run_slice (P := P) (w := w) hu hn (base := none) (len := 0) (cap := 0) g1 g2 g3 g4 (Int.le_refl _) (Int.le_refl _) (Int.le_refl _) (Int.le_refl _)
              exact ⟨_, by simp only [execOp, ex, Sem.run_bind, run, Result.andThen_ok, Sem.run_pure]; rfl, .v1 (.one (.c0 .nils))⟩
            · cases he
          · cases he
        · rename_i t' o' s' len cap hr
          rw [hr] at h1
          split at he
          · rename_i lv hv mv b1 b2 b3
            split at he
            · rename_i hb
              obtain ⟨rfl, c1, c2, c3, c4⟩ := hb
              cases he
              have h3 := one_inv h1
              obtain ⟨g1, g2, g3, g4⟩ := fin hl hh hm b1 b2 b3
              have hm2 := (bnd_sound h hm b3).2
              have ex : ∃ base c, a.eval x = .slice base len c := by
                generalize hz : a.eval x = z at h3
                cases h3 with | c0 h3 => cases h3 with
                  | mslN => exact ⟨_, _, rfl⟩
                  | msl => exact ⟨_, _, rfl⟩
              obtain ⟨base, c, ex⟩ := ex
              rw [ex] at h3
              have hroom := room_le h h3
              rcases g3 with ⟨e0, e1⟩ | ⟨km, e0⟩
              · have hmn : m' = none := by
                  cases m with
                  | none => cases m' with | none => rfl | some => simp at hm2
                  | some => simp at e0
                subst hmn
                have run := run_slice (P := P) (w := w) hu hn (base := base) (cap := c) g1 g2 (.inl ⟨e0, rfl⟩) g4 c1 c2 (by omega) (Int.le_refl _)
                refine ⟨_, by simp only [execOp, ex, Sem.run_bind, run, Result.andThen_ok, Sem.run_pure]; rfl, .v1 (.one ?_)⟩
                exact slcC_sound h h3 (m := (c : Int).toNat) (.inl ⟨rfl, by omega⟩) (by omega) (by omega) (by omega)
              · have hmn : m'.map (fun _ => mv.toNat) = some mv.toNat := by
                  cases m with
                  | none => simp at e0
                  | some => cases m' with | none => simp at hm2 | some => rfl
                rw [hmn]
                have run := run_slice (P := P) (w := w) hu hn (base := base) (cap := c) g1 g2 (.inr ⟨km, e0⟩) g4 c1 c2 c3 (by omega)
                refine ⟨_, by simp only [execOp, ex, Sem.run_bind, run, Result.andThen_ok, Sem.run_pure]; rfl, .v1 (.one ?_)⟩
                exact slcC_sound h h3 (.inr rfl) (by omega) (by omega) (by omega)
            · cases he
          · cases he
        · cases he
      · rename_i k e hu
        obtain ⟨n, hn, hc⟩ := bind_some' hc
        obtain ⟨x', hx, hc⟩ := bind_some' hc
        obtain ⟨l', hl, hc⟩ := bind_some' hc
        obtain ⟨h', hh, hc⟩ := bind_some' hc
        obtain ⟨m', hm, rfl⟩ := map_some' hc
        have h1 := opd_sound h hx
        simp only [evQ] at he
        split at he
        · rename_i t' s' hr
          rw [hr] at h1
          split at he
          · rename_i mu s2 rows lv hv mv hold b1 b2 b3
            split at he
            · rename_i hb
              obtain ⟨rfl, rfl, hrl, c1, c2, c3, c4⟩ := hb
              cases he
              obtain ⟨g1, g2, g3, g4⟩ := fin hl hh hm b1 b2 b3
              obtain ⟨b, ex, hb'⟩ := ptr_inv h1
              simp only [Nat.zero_mul, Nat.add_zero] at ex
              have run := run_sliceA (P := P) (w := w) hu hn (ad := ⟨b, 0, none⟩) g1 g2 g3 g4 c1 c2 c3 c4
              have ho := h.obj t'
              rw [hold] at ho
              obtain ⟨_, _, ⟨g, _⟩ | ⟨b', xs, e', q1, q2, q3, _⟩⟩ := ho
              · rw [hb'] at g; cases g
              rw [hb'] at q1; cases q1
              have hfull : CRel A τ w (.msl t' 0 s2 k (some k)) (.slice (some ⟨b, 0, none⟩) k k) := by
                have := C0.msl (A := A) (w := w) t' 0 s2 k b k (some k) hb' (fun q hq => by cases hq; rfl) (Nat.le_refl _) ⟨xs, e', q2, by rw [Nat.zero_add, ← hrl]; exact q3, fun hq => by cases hq⟩
                rw [Nat.zero_mul] at this
                exact .c0 this
              have key := slcC_sound h hfull (l := lv.toNat) (h' := hv.toNat) (m := mv.toNat) (mo := some mv.toNat) (.inr rfl) (by omega) (by omega) (by omega)
              refine ⟨_, by simp only [execOp, ex, Sem.run_bind, run, Result.andThen_ok, Sem.run_pure]; rfl, .v1 (.one ?_)⟩
              have e3 : slcC t' 0 s2 lv.toNat hv.toNat none (some mv.toNat) = slcC t' 0 s2 lv.toNat hv.toNat (some k) (some mv.toNat) := rfl
              rw [e3]
              have e4 : (some (if mv.toNat = lv.toNat then (⟨b, 0, none⟩ : Addr) else (⟨b, 0, none⟩ : Addr).add (lv.toNat * s2))) = (if mv.toNat = lv.toNat then some (⟨b, 0, none⟩ : Addr) else (some (⟨b, 0, none⟩ : Addr)).map (·.add (lv.toNat * s2))) := by
                split <;> rfl
              rw [e4]
              exact key
            · cases he
          · cases he
        · cases he
      · cases hc
  case index t x i =>
    split at hc
    · rename_i hu
      obtain ⟨x', hx, hc⟩ := bind_some' hc
      obtain ⟨i', hi, rfl⟩ := map_some' hc
      have h1 := opd_sound h hx
      have h2 := opd_sound h hi
      simp only [evQ] at he
      split at he
      · rename_i str k n hs hn
        rw [hs] at h1; rw [hn] at h2
        have e2 := int_inv h2
        have e1 : a.eval x = .string str := by
          have := p_inv h1
          generalize hz : a.eval x = z at this
          cases this; rfl
        split at he
        · rename_i h0
          split at he
          · rename_i b hb
            cases he
            refine ⟨_, ?_, pint_rel _ _⟩
            simp [execOp, Instr.index, e1, e2, asIntOf, run_und hu, h0, hb]
          · cases he
        · cases he
      · cases he
    · cases hc
  case lookup t x k ok =>
    split at hc
    · rename_i kt et hu
      split at hc
      · rename_i ik hk
        obtain ⟨z, hz, hc⟩ := bind_some' hc
        obtain ⟨x', hx, hc⟩ := bind_some' hc
        obtain ⟨k', hk', rfl⟩ := map_some' hc
        obtain ⟨zv, hzv, hz⟩ := bind_some' hz
        obtain ⟨i0, hi0, hzv⟩ := bind_some' hzv
        have h1 := opd_sound h hx
        have h2 := opd_sound h hk'
        have hzr : VRel A τ w z zv := constAV_sound hz
        have hzr1 : V1 A τ w z zv := by
          cases hzr with
          | v1 h => exact h
          | tup h =>
            simp [constAV, constAC] at hz
        simp only [evQ] at he
        split at he
        · rename_i es n hes hn
          rw [hn] at h2
          have e2 := int_inv h2
          have ents := entries_sound h h1 hes
          obtain ⟨b, ces, clock, ex, hb, hen⟩ := ents
          have hik : ik = .i64 ∨ ik ≠ .i64 := by cases ik <;> simp
          have hck : ∀ e, (Instr.checkKey e 10000 kt (.int .i64 n)).run P w = .ok () w := by
            intro e
            have : ∀ d, (Instr.checkKey e (d + 1) kt (.int .i64 n)).run P w = .ok () w := by
              intro d; simp [Instr.checkKey, run_und hk]
            exact this 9999
          have hobj : (getObj b).run P w = .ok (.map ces clock) w := by simp [getObj, Sem.run, hb]
          have hfind := findE_sound (τ := τ) hen n 0
          have hnow : ∀ i : Nat, Instr.findNow (.int ik) (.int .i64 n) ces.toList i = Instr.findNow (.int .i64) (.int .i64 n) ces.toList i := by
            generalize ces.toList = l
            induction l with
            | nil => intro i; rfl
            | cons m l ih => intro i; cases hm : m.key <;> simp [Instr.findNow, Instr.sameNow, ih, hm]
          split at he
          · rename_i v' b' hv
            cases he
            cases hf : findE n es with
            | some r =>
              simp only [hf] at hv hfind
              obtain ⟨vv, hvv, hv⟩ := map_some' hv
              cases hv
              obtain ⟨j, xv, hj, hrel⟩ := hfind
              obtain ⟨r1, r2⟩ := hrel _ hvv
              refine ⟨if ok then .tuple #[xv, .bool true] else xv, ?_, ?_⟩
              · simp only [execOp, Instr.lookup, ex, e2, Sem.run_bind, run_und hu, Result.andThen_ok, hobj, Sem.run_pure, hck, Instr.findKey, run_und hk, hnow, hj]
              · cases ok
                · exact r1
                · exact .tup (.cons r2 (.cons (.one (.c0 (.p _ _ (.bool true)))) .nil))
            | none =>
              simp only [hf] at hv hfind
              cases hv
              refine ⟨if ok then .tuple #[zv, .bool false] else zv, ?_, ?_⟩
              · simp only [execOp, Instr.lookup, ex, e2, Sem.run_bind, run_und hu, Result.andThen_ok, hobj, Sem.run_pure, hck, Instr.findKey, run_und hk, hnow, hfind, zeroValue, run_ti hi0, hzv]
              · cases ok
                · exact hzr
                · exact .tup (.cons hzr1 (.cons (.one (.c0 (.p _ _ (.bool false)))) .nil))
          · cases he
        · cases he
      · cases hc
    · cases hc
  case call c =>
    obtain ⟨callee, args, argTypes⟩ := c
    cases callee with
    | value f =>
      cases f <;> simp only [compQ] at hc <;> (try (cases hc; done))
      rename_i f
      have ext : ∀ (i : Nat), extOf P f = some i → ∃ fn, P.funcs[f]? = some fn ∧ fn.body.isNone = true ∧
          ((i = 0 ∧ fn.origin = "" ∧ fn.name = "math/bits.Add64") ∨ (i = 1 ∧ fn.origin = "" ∧ fn.name = "math/bits.Sub64") ∨ (i = 2 ∧ fn.origin = "slices.overlaps" ∧ fn.name = "slices.overlaps[int]")) := by
        intro i hi
        unfold extOf at hi
        split at hi
        · rename_i fn hfn
          split at hi
          · rename_i hb
            refine ⟨fn, hfn, hb, ?_⟩
            split at hi
            · rename_i hc; cases hi; exact .inl ⟨rfl, hc⟩
            · split at hi
              · rename_i hc; cases hi; exact .inr (.inl ⟨rfl, hc⟩)
              · split at hi
                · rename_i hc; cases hi; exact .inr (.inr ⟨rfl, hc⟩)
                · cases hi
          · cases hi
        · cases hi
      have run : ∀ {vs : List Operand} {v : Value}, args.toList = vs → (callFunc f ⟨vs.map a.eval⟩).run P w = .ok (.value v) w →
          (execOp a.eval ⟨dst, .call ⟨.value (.func f), args, argTypes⟩, type, pos, after, guard⟩).run P w = .ok (.value v) w := by
        intro vs v hvs hr
        have e1 : args.map a.eval = ⟨vs.map a.eval⟩ := by apply Array.ext'; simp [← hvs]
        have e2 : a.eval (.func f) = .func (.func f) #[] #[] := rfl
        have e3 : (#[] : Array Value) ++ (⟨vs.map a.eval⟩ : Array Value) ++ #[] = ⟨vs.map a.eval⟩ := by simp
        simp only [execOp, resolve, Deferred.ofValue, e2, Sem.run_bind, Sem.run_pure, Result.andThen_ok, invoke, e1, e3, hr]
      split at hc
      · rename_i x y c hi hargs
        obtain ⟨x', hx, hc⟩ := bind_some' hc
        obtain ⟨y', hy, hc⟩ := bind_some' hc
        obtain ⟨c', hcc, rfl⟩ := map_some' hc
        obtain ⟨fn, hfn, hb, hk⟩ := ext 0 hi
        rcases hk with ⟨_, ho, hname⟩ | ⟨h0, _⟩ | ⟨h0, _⟩
        rotate_left
        · cases h0
        · cases h0
        have h1 := opd_sound h hx
        have h2 := opd_sound h hy
        have h3 := opd_sound h hcc
        simp only [evQ] at he
        split at he
        · rename_i k1 m1 k2 m2 k3 m3 g1 g2 g3
          rw [g1] at h1; rw [g2] at h2; rw [g3] at h3
          split at he
          · rename_i hle
            cases he
            have hcf : (callFunc f #[.int k1 m1, .int k2 m2, .int k3 m3]).run P w = .ok (.value (.tuple #[.int .u64 (carryN false m1.toNat m2.toNat m3.toNat).1, .int .u64 (carryN false m1.toNat m2.toNat m3.toNat).2])) w := by
              rw [run_callFunc_extern hfn (by rw [hname]; rfl) hb (by simp only [Extern.findNext, hname, ho]; kernel_rfl) (e := add64Entry) (by simp only [Extern.find, hname, ho]; kernel_rfl)]
              have key : (add64Entry #[.int k1 m1, .int k2 m2, .int k3 m3]).run P w = .ok (.tuple #[.int .u64 (carryN false m1.toNat m2.toNat m3.toNat).1, .int .u64 (carryN false m1.toNat m2.toNat m3.toNat).2]) w := by
                rcases hle with rfl | rfl <;> rfl
              rw [key]; rfl
            exact ⟨_, run hargs (by simp only [List.map, int_inv h1, int_inv h2, int_inv h3]; exact hcf), .tup (.cons (.one (.c0 (.p _ _ (.int _ _)))) (.cons (.one (.c0 (.p _ _ (.int _ _)))) .nil))⟩
          · cases he
        · cases he
      · rename_i x y c hi hargs
        obtain ⟨x', hx, hc⟩ := bind_some' hc
        obtain ⟨y', hy, hc⟩ := bind_some' hc
        obtain ⟨c', hcc, rfl⟩ := map_some' hc
        obtain ⟨fn, hfn, hb, hk⟩ := ext 1 hi
        rcases hk with ⟨h0, _⟩ | ⟨_, ho, hname⟩ | ⟨h0, _⟩
        · cases h0
        rotate_left
        · cases h0
        have h1 := opd_sound h hx
        have h2 := opd_sound h hy
        have h3 := opd_sound h hcc
        simp only [evQ] at he
        split at he
        · rename_i k1 m1 k2 m2 k3 m3 g1 g2 g3
          rw [g1] at h1; rw [g2] at h2; rw [g3] at h3
          split at he
          · rename_i hle
            cases he
            have hcf : (callFunc f #[.int k1 m1, .int k2 m2, .int k3 m3]).run P w = .ok (.value (.tuple #[.int .u64 (carryN true m1.toNat m2.toNat m3.toNat).1, .int .u64 (carryN true m1.toNat m2.toNat m3.toNat).2])) w := by
              rw [run_callFunc_extern hfn (by rw [hname]; rfl) hb (by simp only [Extern.findNext, hname, ho]; kernel_rfl) (e := (Extern.MathBitsCarry.rows.get ⟨1, by decide⟩).2) (by simp only [Extern.find, hname, ho]; kernel_rfl)]
              have key : ((Extern.MathBitsCarry.rows.get ⟨1, by decide⟩).2 #[.int k1 m1, .int k2 m2, .int k3 m3]).run P w = .ok (.tuple #[.int .u64 (carryN true m1.toNat m2.toNat m3.toNat).1, .int .u64 (carryN true m1.toNat m2.toNat m3.toNat).2]) w := by
                rcases hle with rfl | rfl <;> rfl
              rw [key]; rfl
            exact ⟨_, run hargs (by simp only [List.map, int_inv h1, int_inv h2, int_inv h3]; exact hcf), .tup (.cons (.one (.c0 (.p _ _ (.int _ _)))) (.cons (.one (.c0 (.p _ _ (.int _ _)))) .nil))⟩
          · cases he
        · cases he
      · rename_i x y hi hargs
        obtain ⟨n, hn, hc⟩ := bind_some' hc
        obtain ⟨x', hx, hc⟩ := bind_some' hc
        obtain ⟨y', hy, rfl⟩ := map_some' hc
        obtain ⟨fn, hfn, hb, hk⟩ := ext 2 hi
        rcases hk with ⟨h0, _⟩ | ⟨h0, _⟩ | ⟨_, ho, hname⟩
        · cases h0
        · cases h0
        have h1 := opd_sound h hx
        have h2 := opd_sound h hy
        have hpar : ∃ t ts e, fn.params.toList = t :: ts ∧ P.underlying t = some (.slice e) ∧ szOf P e = some n := by
          unfold parSz at hn
          rw [hfn] at hn
          simp only at hn
          split at hn
          · rename_i t ts hts
            split at hn
            · rename_i e hu; exact ⟨t, ts, e, hts, hu, hn⟩
            · cases hn
          · cases hn
        obtain ⟨t0, ts0, e0, hts, hu, hsz⟩ := hpar
        simp only [evQ] at he
        split at he
        · rename_i t o1 s1 la c1 u o2 s2 lb c2 g1 g2
          rw [g1] at h1; rw [g2] at h2
          split at he
          · rename_i q1 rows1 m2 q2 rows2 hold1 hold2
            split at he
            · rename_i hcond
              obtain ⟨htu, rfl, rfl, hs0⟩ := hcond
              cases he
              have hent : Extern.find fn = some (Extern.SlicesOverlaps.overlaps fn.params fn.resultTypes) := by
                simp only [Extern.find, hname, ho]
                have e1 : Extern.allGenericRows.lookup "slices.overlaps[int]" = none := by kernel_rfl
                have e2 : Extern.allTypedRows.lookup "slices.overlaps[int]" = none := by kernel_rfl
                have e3 : Extern.allRows.lookup "slices.overlaps[int]" = none := by kernel_rfl
                have e4 : Extern.allGenericRows.lookup "slices.overlaps" = none := by kernel_rfl
                have e5 : Extern.allTypedRows.lookup "slices.overlaps" = some Extern.SlicesOverlaps.overlaps := by kernel_rfl
                rw [e1, e2, e3, e4, e5]
                rfl
              have goal : (Extern.SlicesOverlaps.overlaps fn.params fn.resultTypes #[a.eval x, a.eval y]).run P w = .ok (.bool false) w := by
                have hp0 : fn.params[0]? = some t0 := by rw [← Array.getElem?_toList, hts]; rfl
                have easy : ∀ (a b : Option Addr) (la ca lb cb : Nat), la = 0 ∨ lb = 0 → (Extern.SlicesOverlaps.overlaps fn.params fn.resultTypes #[.slice a la ca, .slice b lb cb]).run P w = .ok (.bool false) w := by
                  intro a b la ca lb cb h0
                  have h0' : la = 0 ∨ lb = 0 ∨ s2 = 0 := by omega
                  rw [run_ovl hp0 hu hsz]
                  cases a <;> cases b <;> simp [ovlB, h0']
                have c1 := one_inv h1
                have c2 := one_inv h2
                generalize a.eval x = xv at c1
                generalize a.eval y = yv at c2
                cases c1 with | c0 c1 => cases c1 with
                  | mslN => cases c2 with | c0 c2 => cases c2 with
                    | mslN => exact easy _ _ _ _ _ _ (.inl rfl)
                    | msl => exact easy _ _ _ _ _ _ (.inl rfl)
                  | msl _ _ _ _ b1 k1 _ hτ1 hc1 hl1 hr1 => cases c2 with | c0 c2 => cases c2 with
                    | mslN => exact easy _ _ _ _ _ _ (.inr rfl)
                    | msl _ _ _ _ b2 k2 _ hτ2 hc2 hl2 hr2 =>
                      by_cases h0 : la = 0 ∨ lb = 0
                      · exact easy _ _ _ _ _ _ h0
                      · have hne : b1 ≠ b2 := fun e => h.sep t u b1 (by rw [hold1]; simp) (by rw [hold2]; simp) htu (by rw [hold1]; rfl) hτ1 (by rw [e]; exact hτ2)
                        obtain ⟨cs1, e1, r1, r2, _⟩ := hr1
                        obtain ⟨cs2, e2, r3, r4, _⟩ := hr2
                        have hnb : (b1 != b2) = true := by simpa using hne
                        have hnb' : (b1 == b2) = false := by simpa using hne
                        have hk : ∃ k, cs2.size = k + 1 := by
                          have : 1 * s2 ≤ (o2 + k2) * s2 := Nat.mul_le_mul_right s2 (by omega)
                          exact ⟨cs2.size - 1, by omega⟩
                        obtain ⟨k, hk⟩ := hk
                        have h00 : ¬ (la = 0 ∨ lb = 0 ∨ s2 = 0) := by omega
                        rw [run_ovl hp0 hu hsz]
                        simp [ovlB, h00, hnb, hnb', frozen, noView, viewAt, mayBeOne, stringish, shape, Sem.run, World.shape?, World.frozen?, r1, r3, hk]
              refine ⟨.bool false, run hargs ?_, pbool_rel _⟩
              rw [run_callFunc_extern hfn (by rw [hname]; rfl) hb (by simp only [Extern.findNext, hname, ho]; kernel_rfl) hent]
              simp only [List.map]
              rw [goal]; rfl
            · cases he
          · cases he
        · cases he
      · cases hc
    | invoke r m => simp only [compQ] at hc; cases hc
    | builtin b =>
      cases b <;> simp only [compQ] at hc <;> (try (cases hc; done))
      case cap =>
        split at hc
        · rename_i x e hargs hu
          obtain ⟨x', hx, rfl⟩ := map_some' hc
          have h1 := opd_sound h hx
          obtain ⟨t0, ht0, hu⟩ := bind_some' hu
          have hargs' : args = #[x] := by
            apply Array.ext'; simpa using hargs
          subst hargs'
          have run : ∀ base n cap, a.eval x = .slice base n cap → (execOp a.eval ⟨dst, .call ⟨.builtin .cap, #[x], argTypes⟩, type, pos, after, guard⟩).run P w = .ok (.value (.int .i64 cap)) w := by
            intro base n cap e1
            simp [execOp, resolve, invoke, builtin, Builtin.cap_, ht0, run_und hu, e1, goInt]
          simp only [evQ] at he
          split at he
          · rename_i t' o' s' len cap hr
            rw [hr] at h1
            cases he
            have h3 := one_inv h1
            generalize hz : a.eval x = z at h3
            cases h3 with | c0 h3 => cases h3 with
              | mslN _ _ _ _ b hτ hc' =>
                have := hc' cap rfl
                subst this
                exact ⟨_, run _ _ _ hz, pint_rel _ _⟩
              | msl _ _ _ _ b c _ hτ hc' hl hroom =>
                have := hc' cap rfl
                subst this
                exact ⟨_, run _ _ _ hz, pint_rel _ _⟩
          · rename_i hr
            rw [hr] at h1
            cases he
            have h3 := one_inv h1
            generalize hz : a.eval x = z at h3
            cases h3 with | c0 h3 => cases h3; exact ⟨_, run _ _ _ hz, pint_rel _ _⟩
          · cases he
        · cases hc
      case max =>
        split at hc
        · rename_i x y hargs
          obtain ⟨x', hx, hc⟩ := bind_some' hc
          obtain ⟨y', hy, rfl⟩ := map_some' hc
          have h1 := opd_sound h hx
          have h2 := opd_sound h hy
          have hargs' : args = #[x, y] := by
            apply Array.ext'; simpa using hargs
          subst hargs'
          simp only [evQ] at he
          split at he
          · rename_i k m k' n hm hn
            rw [hm] at h1; rw [hn] at h2
            have e1 := int_inv h1
            have e2 := int_inv h2
            cases he
            refine ⟨_, ?_, pint_rel _ _⟩
            have hmx : (if n > m then n else m) = max m n := by omega
            simp [execOp, resolve, invoke, builtin, Builtin.max_, Builtin.max2, e1, e2]
            exact hmx
          · cases he
        · cases hc
      case min =>
        split at hc
        · rename_i x y hargs
          obtain ⟨x', hx, hc⟩ := bind_some' hc
          obtain ⟨y', hy, rfl⟩ := map_some' hc
          have h1 := opd_sound h hx
          have h2 := opd_sound h hy
          have hargs' : args = #[x, y] := by
            apply Array.ext'; simpa using hargs
          subst hargs'
          simp only [evQ] at he
          split at he
          · rename_i k m k' n hm hn
            rw [hm] at h1; rw [hn] at h2
            have e1 := int_inv h1
            have e2 := int_inv h2
            cases he
            refine ⟨_, ?_, pint_rel _ _⟩
            have hmx : (if n < m then n else m) = min m n := by omega
            simp [execOp, resolve, invoke, builtin, Builtin.min_, Builtin.min2, e1, e2]
            exact hmx
          · cases he
        · cases hc
      case len =>
        have run : ∀ x z n, args.toList = [x] → a.eval x = z → (Builtin.len_ argTypes type #[z]).run P w = .ok (.int .i64 n) w → (execOp a.eval ⟨dst, .call ⟨.builtin .len, args, argTypes⟩, type, pos, after, guard⟩).run P w = .ok (.value (.int .i64 n)) w := by
          intro x z n e0 e1 e2
          have hargs' : args = #[x] := by
            apply Array.ext'; simpa using e0
          subst hargs'
          simp [execOp, resolve, invoke, builtin, e1, e2]
        split at hc
        · rename_i x e hargs hu
          obtain ⟨x', hx, rfl⟩ := map_some' hc
          have h1 := opd_sound h hx
          obtain ⟨t0, ht0, hu⟩ := bind_some' hu
          have lenS : ∀ base n cap, (Builtin.len_ argTypes type #[.slice base n cap]).run P w = .ok (.int .i64 n) w := by
            intro base n cap
            simp [Builtin.len_, ht0, run_und hu, goInt]
          simp only [evQ] at he
          split at he
          · rename_i rows hr
            rw [hr] at h1
            cases he
            have h3 := p_inv h1
            generalize hz : a.eval x = z at h3
            cases h3 with
            | nil a' cap => exact ⟨_, run x _ _ hargs hz (lenS _ _ _), pint_rel _ _⟩
            | sl _ b off cap s' hA hs hl hcap hat => exact ⟨_, run x _ _ hargs hz (lenS _ _ _), pint_rel _ _⟩
          · rename_i hr
            rw [hr] at h1
            cases he
            have h3 := one_inv h1
            generalize hz : a.eval x = z at h3
            cases h3 with | c0 h3 => cases h3; exact ⟨_, run x _ _ hargs hz (lenS _ _ _), pint_rel _ _⟩
          · rename_i t' o' s' len cap hr
            rw [hr] at h1
            cases he
            have h3 := one_inv h1
            generalize hz : a.eval x = z at h3
            cases h3 with | c0 h3 => cases h3 with
              | mslN => exact ⟨_, run x _ _ hargs hz (lenS _ _ _), pint_rel _ _⟩
              | msl => exact ⟨_, run x _ _ hargs hz (lenS _ _ _), pint_rel _ _⟩
          · cases he
        · rename_i x k e hargs hu
          obtain ⟨x', hx, rfl⟩ := map_some' hc
          have h1 := opd_sound h hx
          obtain ⟨t0, ht0, hu⟩ := bind_some' hu
          simp only [evQ] at he
          split at he
          · rename_i es hes
            cases he
            obtain ⟨b, ces, clock, ex, hb, hen⟩ := entries_sound h h1 hes
            have lenM : (Builtin.len_ argTypes type #[.map (some b)]).run P w = .ok (.int .i64 ces.size) w := by
              have hobj : (getObj b).run P w = .ok (.map ces clock) w := by simp [getObj, Sem.run, hb]
              simp [Builtin.len_, ht0, run_und hu, goInt, hobj]
            have hl := en_len hen
            simp only [Array.length_toList] at hl
            rw [hl] at lenM
            exact ⟨_, run x _ _ hargs ex lenM, pint_rel _ _⟩
          · cases he
        · rename_i x hargs hu
          obtain ⟨x', hx, rfl⟩ := map_some' hc
          have h1 := opd_sound h hx
          obtain ⟨t0, ht0, hu⟩ := bind_some' hu
          simp only [evQ] at he
          split at he
          · rename_i str hr
            rw [hr] at h1
            cases he
            have h3 := p_inv h1
            generalize hz : a.eval x = z at h3
            cases h3 with
            | str _ =>
              refine ⟨_, run x _ _ hargs hz ?_, pint_rel _ _⟩
              simp [Builtin.len_, ht0, run_und hu, goInt]
          · cases he
        · cases hc
end Go.AM

namespace Go.AM
open Go.RowKit (Below)

inductive NOp where
  | alloc (z : List AC)
  | allocA (s : Nat) (rows : List (List PV))
  | box (n : Nat) (x : Opd)
  | lit (s len : Nat) (z : List PV) (ps : List (Nat × Opd))
  | mkS (s by_ : Nat) (z : List PV) (len cap : Opd)
  | mkM
  | boxA (s n : Nat) (x : Opd)
def chunk (s : Nat) : Nat → List PV → List (List PV)
  | 0, _ => []
  | n + 1, zs => zs.take s :: chunk s n (zs.drop s)
def setRows (rows : List (List PV)) : List (Nat × List PV) → List (List PV)
  | [] => rows
  | (i, r) :: ps => setRows (rows.set i r) ps
def partsP (e : Env) (s len : Nat) : List (Nat × Opd) → Option (List (Nat × List PV))
  | [] => some []
  | (i, x) :: ps => match (asCells (get e x)).bind pvs with
    | some r => if r.length = s ∧ i < len then (partsP e s len ps).map ((i, r) :: ·) else none
    | none => none
def evN (q : NOp) (e : Env) (d : Nat) : Option (AO × AV) :=
  match q with
  | .alloc z => some (.cells true z, .one (.ptr d 0 z.length 0))
  | .allocA s rows => if rows.length ≤ MaxN then some (.arr true s rows, .one (.ptr d 0 s 0)) else none
  | .box n x => match asCells (get e x) with
    | some cs => if cs.length = n then some (.cells true cs, .one (.ptr d 0 n 0)) else none
    | none => none
  | .lit s len z ps => match partsP e s len ps with
    | some l => if len ≤ MaxN then some (.arr true s (setRows (List.replicate len z) l), .one (.msl d 0 s len none)) else none
    | none => none
  | .mkS s by_ z len cap => match get e len, get e cap with
    | .one (.p (.int .i64 l)), .one (.p (.int .i64 c)) => if 0 ≤ l ∧ l ≤ c ∧ c ≤ MaxN ∧ c * by_ ≤ MaxN then
        some (.arr true s (List.replicate l.toNat z), .one (.msl d 0 s l.toNat (some c.toNat))) else none
    | _, _ => none
  | .mkM => some (.map true [], .one (.mmap d))
  | .boxA s n x => match (asCells (get e x)).bind pvs with
    | some zs => if n * s = zs.length ∧ n ≤ MaxN then some (.arr true s (chunk s n zs), .one (.ptr d 0 s 0)) else none
    | none => none
def AO.nr (d : Nat) : AO → Bool
  | .cells _ cs => !AC.has.hasL d cs
  | _ => true
def AS.nr (d : Nat) (s : AS) : Bool := s.env.all (fun p => !p.2.has d) && s.σ.all (fun p => p.2.nr d) && s.ex.all (fun v => !v.has d)
theorem lk_all {e : List (Nat × AV)} {q : AV → Bool} (h : e.all (fun p => q p.2) = true) (ht : q .top = true) (i : Nat) : q (lk e i) = true := by
  induction e with
  | nil => exact ht
  | cons p e ih =>
    simp only [List.all_cons, Bool.and_eq_true] at h
    obtain ⟨j, v⟩ := p
    simp only [lk]
    split
    · exact h.1
    · exact ih h.2
theorem lo_all {e : List (Nat × AO)} {q : AO → Bool} (h : e.all (fun p => q p.2) = true) (ht : q .none = true) (i : Nat) : q (lo e i) = true := by
  induction e with
  | nil => exact ht
  | cons p e ih =>
    simp only [List.all_cons, Bool.and_eq_true] at h
    obtain ⟨j, v⟩ := p
    simp only [lo]
    split
    · exact h.1
    · exact ih h.2
structure AS.Nr (d : Nat) (s : AS) : Prop where
  env : ∀ i, (lk s.env i).has d = false
  obj : ∀ t, (lo s.σ t).nr d = true
  ex : ∀ v ∈ s.ex, v.has d = false
theorem AS.nr_Nr {d : Nat} {s : AS} (hd : s.nr d = true) : s.Nr d := by
  simp only [AS.nr, Bool.and_eq_true] at hd
  obtain ⟨⟨hd1, hd2⟩, hd3⟩ := hd
  exact ⟨fun i => by simpa using lk_all (q := fun v => !v.has d) hd1 rfl i, fun t => lo_all (q := AO.nr d) hd2 rfl t, fun v hv => by simpa using List.all_eq_true.1 hd3 v hv⟩
theorem SimAt.new {G : Ground} {s : AS} {a : Act} {w : World} {A : Nat → Prop} {τ : Tau} (h : SimAt G s a w A τ) {d : Nat} (hd : s.Nr d) (hn : lo s.σ d = .none)
    (ob : Obj) {o : AO} (hob : ORel G.M A (fun t => if t = d then some w.heap.size else τ t) { w with heap := w.heap.push ob } d o) :
    SimAt G { s with σ := (d, o) :: s.σ } a { w with heap := w.heap.push ob } A (fun t => if t = d then some w.heap.size else τ t) := by
  obtain ⟨hd1, hd2, hd3⟩ := hd
  have hw := WStep.push w ob
  have hst : Still A w { w with heap := w.heap.push ob } := hw.still h.alt (fun _ _ hf => hf)
  have hτ : ∀ u, u ≠ d → (if u = d then some w.heap.size else τ u) = τ u := fun u hu => if_neg hu
  have ev : ∀ v : AV, v.has d = false → ∀ t, v.has t = true → (if t = d then some w.heap.size else τ t) = τ t := fun v hv t ht =>
    hτ t (fun e => by subst e; rw [hv] at ht; cases ht)
  have live : ∀ t b, lo s.σ t ≠ .none → τ t = some b → b < w.heap.size := by
    intro t b hl hb
    have := h.obj t
    cases ho : lo s.σ t with
    | none => exact absurd ho hl
    | cells m cs =>
      rw [ho] at this
      obtain ⟨b', _, _, h1, h2, _⟩ := this
      rw [hb] at h1; cases h1
      exact heap_lt h2
    | arr m s' rows =>
      rw [ho] at this
      obtain ⟨_, _, ⟨h1, _⟩ | ⟨b', _, _, h1, h2, _⟩⟩ := this
      · rw [hb] at h1; cases h1
      · rw [hb] at h1; cases h1
        exact heap_lt h2
    | map m es =>
      rw [ho] at this
      obtain ⟨b', _, _, h1, h2, _⟩ := this
      rw [hb] at h1; cases h1
      exact heap_lt h2
  refine ⟨?_, h.a0, h.a1, fun b hb => Nat.lt_of_lt_of_le (h.alt b hb) hw.size, h.size, fun i => ?_, fun t => ?_, ?_, ?_, h.marks.step hw.dfr0 (fun b hb => .inl hb)⟩
  · refine ⟨h.below.os, h.below.tape, h.below.output, Nat.le_trans h.below.size hw.size, fun k hk hno => ?_⟩
    rw [hw.same k (Nat.lt_of_lt_of_le hk h.below.size) (fun hf => hf)]
    exact h.below.block k hk hno
  · exact (h.env i).step hw (fun _ hb => hb) hst (ev _ (hd1 i))
  · rw [lo_put]
    by_cases ht : t = d
    · subst ht; simpa using hob
    · rw [if_neg ht]
      refine (h.obj t).step hw (fun _ hb => hb) hst (fun b hb => .inl hb) (fun b _ _ hlt => hw.same b hlt (fun hf => hf)) (hτ t ht) (fun u hu => ?_)
      have hnr := hd2 t
      cases ho : lo s.σ t with
      | cells m cs =>
        rw [ho] at hnr hu
        refine hτ u (fun e => ?_)
        subst e
        simp [AO.nr] at hnr
        simp only at hu
        rw [hnr] at hu; cases hu
      | none => rw [ho] at hu; exact hu.elim
      | arr => rw [ho] at hu; exact hu.elim
      | map => rw [ho] at hu; exact hu.elim
  · intro t t' b h1 h2 hne hm hb
    simp only [lo_put] at h1 h2 hm
    by_cases ht : t = d
    · subst ht
      simp only [if_true] at hb
      have ht' : ¬ t' = t := fun e => hne e.symm
      rw [if_neg ht'] at h2
      simp only [if_neg ht']
      intro hb'
      have := live t' b h2 hb'
      cases hb
      omega
    · rw [if_neg ht] at h1 hm
      simp only [if_neg ht] at hb
      by_cases ht' : t' = d
      · subst ht'
        simp only [if_true]
        intro hb'
        have := live t b h1 hb
        cases hb'
        omega
      · rw [if_neg ht'] at h2
        simp only [if_neg ht']
        exact h.sep t t' b h1 h2 hne hm hb
  · refine h.ex.stepL (p := fun v => v.has d = false) hd3 (fun v x hv hr => hr.step hw (fun _ hb => hb) hst (ev v hv))
def zeroP (P : Program) (e : TypeId) : Option (List PV) := ((P.info? e).bind (·.zero)).bind fun z => (constACs z.cells.toList).bind pvs
def partsO (P : Program) : List (Nat × Operand) → Option (List (Nat × Opd))
  | [] => some []
  | (i, x) :: ps => (opd x).bind fun y => (partsO P ps).map ((i, y) :: ·)
def compN (P : Program) (o : Op) : Option NOp :=
  match o with
  | .alloc e => match P.underlying e with
    | some (.array len el) => (szOf P el).bind fun n => (zeroP P e).bind fun z => if len * n = z.length then some (.allocA n (chunk n len z)) else none
    | some _ => ((P.info? e).bind (·.zero)).bind fun z => (constACs z.cells.toList).map .alloc
    | none => none
  | .box e x => match P.underlying e with
    | some (.array len el) => (szOf P el).bind fun n => (opd x).map fun x => .boxA n len x
    | some _ => (szOf P e).bind fun n => (opd x).map fun x => .box n x
    | none => none
  | .buildSlice t len ps => match P.underlying t with
    | some (.slice e) => (szOf P e).bind fun n => (zeroP P e).bind fun z => if len * n ≤ 2 ^ 24 ∧ z.length = n ∧ n ≠ 0 then (partsO P ps.toList).map fun ps => .lit n len z ps else none
    | _ => none
  | .makeSlice t l c => match P.underlying t with
    | some (.slice e) => (szOf P e).bind fun n => (zeroP P e).bind fun z => if z.length = n ∧ n ≠ 0 then ((P.info? e).map (·.bytes)).bind fun b => (opd l).bind fun l => (opd c).map fun c => .mkS n b z l c else none
    | _ => none
  | .makeMap _ none => some .mkM
  | _ => none
theorem chunk_len (s : Nat) : ∀ (n : Nat) (zs : List PV), n * s ≤ zs.length → (∀ r ∈ chunk s n zs, r.length = s) ∧ (chunk s n zs).length = n ∧ (chunk s n zs).flatten = zs.take (n * s)
  | 0, zs, _ => by simp [chunk]
  | n + 1, zs, h => by
    have h1 : s + n * s ≤ zs.length := by rw [Nat.succ_mul] at h; omega
    obtain ⟨i1, i2, i3⟩ := chunk_len s n (zs.drop s) (by simp; omega)
    refine ⟨?_, by simp [chunk, i2], ?_⟩
    · intro r hr
      simp only [chunk, List.mem_cons] at hr
      rcases hr with rfl | hr
      · simp; omega
      · exact i1 r hr
    · simp only [chunk, List.flatten_cons, i3]
      rw [Nat.succ_mul, Nat.add_comm (n * s) s, List.take_add]
theorem new_cell (w : World) (xs : Array Value) (e : TypeId) (i : Nat) : ({ w with heap := w.heap.push (.cells xs e) } : World).cell? ⟨w.heap.size, i, none⟩ = xs[i]? := by
  simp [World.cell?]
theorem pat_of_all2 {w : World} {A : Nat → Prop} {vs : List PV} {xs : List Value} {b off : Nat} (h : All2 (PRel A w) vs xs) (hc : ∀ (i : Nat) x, xs[i]? = some x → w.cell? ⟨b, off + i, none⟩ = some x) : PAt A w vs b off :=
  PAt.of_get fun i v hi => by
    obtain ⟨x, hx, hr⟩ := h.get i v hi
    exact ⟨x, hc i x hx, hr⟩
theorem rep_flat {α β : Type} {R : α → β → Prop} {z : List α} {zs : List β} (h : All2 R z zs) : ∀ (n : Nat), All2 R (List.replicate n z).flatten (List.replicate n zs).flatten
  | 0 => .nil
  | n + 1 => by simpa [List.replicate_succ] using h.append (rep_flat h n)
theorem rep_get {β : Type} (zs : List β) (hz : zs ≠ []) : ∀ (n i : Nat), i < n * zs.length → (List.replicate n zs).flatten[i]? = zs[i % zs.length]?
  | 0, i, h => by simp at h
  | n + 1, i, h => by
    simp only [List.replicate_succ, List.flatten_cons]
    by_cases hi : i < zs.length
    · rw [List.getElem?_append_left hi, Nat.mod_eq_of_lt hi]
    · rw [List.getElem?_append_right (by omega), rep_get zs hz n _ (by rw [Nat.add_mul, Nat.one_mul] at h; omega)]
      congr 1
      exact (Nat.mod_eq_sub_mod (by omega)).symm
theorem range_rep (zs : List Value) (n : Nat) : ((Array.range (n * zs.length)).map fun i => (⟨zs⟩ : Array Value)[i % (⟨zs⟩ : Array Value).size]!) = ⟨(List.replicate n zs).flatten⟩ := by
  apply Array.ext'
  apply List.ext_getElem?
  intro i
  by_cases hz : zs = []
  · subst hz; simp
  · have hpos : 0 < zs.length := List.length_pos_iff.2 hz
    by_cases hi : i < n * zs.length
    · have hmod : i % zs.length < zs.length := Nat.mod_lt _ hpos
      simp only [Array.toList_map, List.getElem?_map]
      rw [rep_get zs hz n i hi]
      simp [hi, hmod]
    · have hl : (List.replicate n zs).flatten.length = n * zs.length := by simp
      rw [List.getElem?_eq_none (by simp; omega), List.getElem?_eq_none (by rw [hl]; omega)]
section sound
variable {P : Program} {G : Ground} {s : AS} {a : Act} {w : World} {A : Nat → Prop} {τ : Tau}
def tauP (τ : Tau) (d b : Nat) : Tau := fun t => if t = d then some b else τ t
theorem tauP_same (τ : Tau) (d b : Nat) : tauP τ d b d = some b := if_pos rfl
abbrev wpush (w : World) (o : Obj) : World := w.alloc o
theorem wpush_new (w : World) (o : Obj) : (wpush w o).heap[w.heap.size]? = some o := World.alloc_heap_new w o
theorem SimAt.fresh (h : SimAt G s a w A τ) : G.M w.heap.size ∧ ¬ A w.heap.size :=
  ⟨.inl h.below.size, fun hA => by have := h.alt _ hA; omega⟩
theorem SimAt.new0 (h : SimAt G s a w A τ) {d : Nat} (hd : s.Nr d) (hn : lo s.σ d = .none) (ob : Obj) :
    SimAt G { s with σ := (d, .none) :: s.σ } a (wpush w ob) A (tauP τ d w.heap.size) := h.new hd hn ob (o := .none) trivial
theorem orel_cells {d : Nat} {cs : List AC} {xs : Array Value} {e : TypeId} (h : SimAt G s a w A τ) (hcs : All2 (CRel A (tauP τ d w.heap.size) (wpush w (.cells xs e))) cs xs.toList) :
    ORel G.M A (tauP τ d w.heap.size) (wpush w (.cells xs e)) d (.cells true cs) :=
  ⟨w.heap.size, xs.toList, e, tauP_same _ _ _, wpush_new _ _, hcs, h.fresh⟩
theorem orel_arr {d : Nat} {m : Nat} {rows : List (List PV)} {xs : Array Value} {e : TypeId} (h : SimAt G s a w A τ) (hl : rows.length ≤ MaxN) (hm : ∀ r ∈ rows, r.length = m)
    (hcs : All2 (PRel A (wpush w (.cells xs e))) rows.flatten (xs.toList.take (rows.length * m))) (hsz : rows.length * m ≤ xs.size) :
    ORel G.M A (tauP τ d w.heap.size) (wpush w (.cells xs e)) d (.arr true m rows) := by
  refine ⟨hm, hl, .inr ⟨w.heap.size, xs, e, tauP_same _ _ _, wpush_new _ _, hsz, ?_, h.fresh⟩⟩
  refine pat_of_all2 hcs fun i x hx => ?_
  have := take_getElem hx
  rw [Nat.zero_add]
  exact (new_cell w xs e i).trans (by simpa using this)
theorem partsP_sound (h : SimAt G s a w A τ) {n len : Nat} : ∀ {ps : List (Nat × Operand)} {ps' : List (Nat × Opd)} {l : List (Nat × List PV)}, partsO P ps = some ps' → partsP s.env n len ps' = some l →
    All2 (fun (p : Nat × List PV) (q : Nat × Value) => p.1 = q.1 ∧ p.2.length = n ∧ p.1 < len ∧ All2 (PRel A w) p.2 q.2.cells.toList) l (ps.map fun p => (p.1, a.eval p.2))
  | [], ps', l, hp, hl => by
    simp [partsO] at hp; subst hp; simp [partsP] at hl; subst hl; exact .nil
  | (i, x) :: ps, ps', l, hp, hl => by
    simp only [partsO] at hp
    obtain ⟨y, hy, hp⟩ := bind_some' hp
    obtain ⟨ps2, hp2, rfl⟩ := map_some' hp
    simp only [partsP] at hl
    split at hl
    · rename_i r hr
      split at hl
      · rename_i hb
        obtain ⟨l2, hl2, rfl⟩ := map_some' hl
        obtain ⟨cs, hcs, hpv⟩ := bind_some' hr
        exact .cons ⟨rfl, hb.1, hb.2, pvs_sound (asCells_sound (opd_sound h hy) hcs) hpv⟩ (partsP_sound h hp2 hl2)
      · cases hl
    · cases hl
theorem flat_len {α : Type} {n : Nat} : ∀ {rows : List (List α)}, (∀ r ∈ rows, r.length = n) → rows.flatten.length = rows.length * n
  | [], _ => by simp
  | r :: rows, h => by
    simp only [List.flatten_cons, List.length_append, h r (by simp), flat_len (rows := rows) (fun q hq => h q (by simp [hq])), List.length_cons, Nat.add_mul, Nat.one_mul]
    omega
theorem set_flat {α : Type} (n : Nat) (rows : List (List α)) (hs : ∀ r ∈ rows, r.length = n) (i : Nat) (r : List α) (hi : i < rows.length) :
    (rows.set i r).flatten = rows.flatten.take (i * n) ++ r ++ rows.flatten.drop (i * n + n) := by
  rw [List.set_eq_take_append_cons_drop, if_pos hi]
  simp only [List.flatten_append, List.flatten_cons]
  rw [take_flat n rows hs i (by omega), drop_flat n rows hs (i + 1) (by omega), Nat.add_mul, Nat.one_mul, List.append_assoc]
theorem fillRows {R : PV → Value → Prop} {n len : Nat} : ∀ {l : List (Nat × List PV)} {qs : List (Nat × Value)} {rows : List (List PV)} {xs : List Value},
    All2 (fun (p : Nat × List PV) (q : Nat × Value) => p.1 = q.1 ∧ p.2.length = n ∧ p.1 < len ∧ All2 R p.2 q.2.cells.toList) l qs → rows.length = len → (∀ r ∈ rows, r.length = n) → All2 R rows.flatten xs →
    ∃ ys, Instr.fill (fun i => some (i * n, n)) ⟨xs⟩ qs = some ⟨ys⟩ ∧ All2 R (setRows rows l).flatten ys ∧ (∀ r ∈ setRows rows l, r.length = n) ∧ (setRows rows l).length = len
  | [], [], rows, xs, _, hlen, hr, hz => ⟨xs, rfl, hz, hr, hlen⟩
  | p :: l, q :: qs, rows, xs, .cons ⟨h1, h2, h3, h4⟩ ht, hlen, hr, hz => by
    obtain ⟨pi, pr⟩ := p
    obtain ⟨qi, qv⟩ := q
    simp only at h1 h2 h3 h4
    subst h1
    have hflat : rows.flatten.length = len * n := by rw [flat_len hr, hlen]
    have hlz := hz.length
    have hle : pi * n + n ≤ len * n := by
      have : (pi + 1) * n ≤ len * n := Nat.mul_le_mul_right n h3
      rw [Nat.add_mul, Nat.one_mul] at this; exact this
    have hsz : qv.cells.size = n := by have := h4.length; simp at this; omega
    have hset := set_flat n rows hr pi pr (by omega)
    obtain ⟨ys, hy1, hy2, hy3, hy4⟩ := fillRows (R := R) (n := n) (len := len) (rows := rows.set pi pr) (xs := xs.take (pi * n) ++ qv.cells.toList ++ xs.drop (pi * n + n)) ht (by simpa using hlen)
      (fun r hq => by
        rcases List.mem_or_eq_of_mem_set hq with h5 | h5
        · exact hr r h5
        · rw [h5]; exact h2)
      (by rw [hset]; exact ((hz.take _).append h4).append (hz.drop _))
    refine ⟨ys, ?_, hy2, hy3, hy4⟩
    simp only [Instr.fill]
    rw [if_neg (by simp [hsz]; omega)]
    rw [← hy1]
    have hf := fold_fill (pi * n) qv.cells.toList xs (by simp [hsz]; omega)
    simp only [Array.toArray_toList, Array.length_toList, hsz] at hf
    rw [← hf]
theorem rep_len {n : Nat} {z : List PV} (hz : z.length = n) (m : Nat) : ∀ r ∈ List.replicate m z, r.length = n := by
  intro r hr; rw [(List.mem_replicate.1 hr).2]; exact hz
theorem zeroP_sound' {e : TypeId} {z : List PV} (h : zeroP P e = some z) :
    ∃ v : Value, (∃ i, P.info? e = some i ∧ i.zero = some v) ∧ ∀ (w w' : World) (A : Nat → Prop), (zeroValue e).run P w = .ok v w ∧ All2 (PRel A w') z v.cells.toList := by
  obtain ⟨v, hv, h⟩ := bind_some' h
  obtain ⟨i, hi, hz⟩ := bind_some' hv
  obtain ⟨cs, hcs, hp⟩ := bind_some' h
  exact ⟨v, ⟨i, hi, hz⟩, fun w w' A => ⟨by simp [zeroValue, run_ti hi, hz], pvs_sound (τ := fun _ => none) (constACs_sound hcs) hp⟩⟩
theorem wrap_small {n : Int} (h0 : -9223372036854775808 ≤ n) (h1 : n ≤ 9223372036854775807) : IntKind.i64.wrap n = n := IntWalk.i64_in n ⟨h0, h1⟩
theorem newv {dst : Option Tmp} {e : TypeId} {type : TypeId} {pos : String} {after : Array Edge} {guard : Option (Nat × Bool)} {v : Value} (hv : (zeroValue e).run P w = .ok v w) :
    (execOp a.eval ⟨dst, .alloc e, type, pos, after, guard⟩).run P w = .ok (.value (.pointer (some ⟨w.heap.size, 0, none⟩))) (wpush w (.cells v.cells e)) := by
  simp only [execOp, Instr.alloc, Sem.run_bind, hv, Result.andThen_ok]
  simp [newVar, newRow, newObj, Sem.run]
theorem compN_sound {o : Oper} {q : NOp} {v : AV} {ob : AO} {d : Nat} (hc : compN P o.op = some q) (h : SimAt G s a w A τ) (he : evN q s.env d = some (ob, v))
    (hd : s.Nr d) (hn : lo s.σ d = .none) :
    ∃ x obj, (execOp a.eval o).run P w = .ok (.value x) (wpush w obj) ∧ ORel G.M A (tauP τ d w.heap.size) (wpush w obj) d ob ∧ VRel A (tauP τ d w.heap.size) (wpush w obj) v x := by
  obtain ⟨dst, op, type, pos, after, guard⟩ := o
  simp only at hc
  have ptr : ∀ obj n, VRel A (tauP τ d w.heap.size) (wpush w obj) (.one (.ptr d 0 n 0)) (.pointer (some ⟨w.heap.size, 0, none⟩)) := fun obj n => by
    have := C0.ptr (A := A) (w := wpush w obj) d 0 n 0 w.heap.size (tauP_same τ d _)
    simpa using VRel.v1 (V1.one (CRel.c0 this))
  cases op <;> simp only [compN] at hc <;> (try (cases hc; done))
  case alloc e =>
    split at hc
    · rename_i len el hu
      obtain ⟨n, hn', hc⟩ := bind_some' hc
      obtain ⟨z, hz, hc⟩ := bind_some' hc
      split at hc
      · rename_i hlen
        cases hc
        simp only [evN] at he
        split at he
        · rename_i hmax
          cases he
          obtain ⟨i1, i2, i3⟩ := chunk_len n len z (by omega)
          rw [i2] at hmax
          obtain ⟨v, hv, hrel⟩ := zeroP_sound' (P := P) hz
          obtain ⟨hv', hrel⟩ := hrel w (wpush w (.cells v.cells e)) A
          refine ⟨_, .cells v.cells e, newv hv', ?_, ptr _ _⟩
          refine orel_arr h (by omega) i1 ?_ ?_
          · rw [i3, List.take_of_length_le (by omega), List.take_of_length_le (by rw [← hrel.length, i2]; omega)]
            exact hrel
          · have := hrel.length; simp only [Array.length_toList] at this; rw [i2]; omega
        · cases he
      · cases hc
    · rename_i d0 hna hu
      obtain ⟨z, hz, hc⟩ := bind_some' hc
      obtain ⟨i, hi, hz⟩ := bind_some' hz
      obtain ⟨cs, hcs, rfl⟩ := map_some' hc
      simp only [evN] at he
      cases he
      exact ⟨_, .cells z.cells e, newv (by simp [zeroValue, run_ti hi, hz]), orel_cells h (constACs_sound hcs), ptr _ _⟩
    · cases hc
  case box e x =>
    have boxv : ∀ y, a.eval x = y → (execOp a.eval ⟨dst, .box e x, type, pos, after, guard⟩).run P w = .ok (.value (.pointer (some ⟨w.heap.size, 0, none⟩))) (wpush w (.cells y.cells e)) := by
      rintro y rfl
      simp [execOp, Instr.box, newVar, newRow, newObj, Sem.run]
    split at hc
    · rename_i len el hu
      obtain ⟨n, hn', hc⟩ := bind_some' hc
      obtain ⟨y, hy, rfl⟩ := map_some' hc
      simp only [evN] at he
      split at he
      · rename_i zs hzs
        split at he
        · rename_i hb
          cases he
          obtain ⟨cs, hcs, hpv⟩ := bind_some' hzs
          have h0 := h.new0 hd hn (.cells (a.eval x).cells e)
          have hrel := pvs_sound (asCells_sound (opd_sound h0 hy) hcs) hpv
          obtain ⟨i1, i2, i3⟩ := chunk_len n len zs (by omega)
          refine ⟨_, .cells (a.eval x).cells e, boxv _ rfl, ?_, ptr _ _⟩
          refine orel_arr h (by omega) i1 ?_ ?_
          · rw [i3, List.take_of_length_le (by omega), List.take_of_length_le (by rw [← hrel.length, i2]; omega)]
            exact hrel
          · have := hrel.length; simp only [Array.length_toList] at this; rw [i2]; omega
        · cases he
      · cases he
    · rename_i d0 hna hu
      obtain ⟨n, hn', hc⟩ := bind_some' hc
      obtain ⟨y, hy, rfl⟩ := map_some' hc
      simp only [evN] at he
      split at he
      · rename_i cs hcs
        split at he
        · cases he
          have h0 := h.new0 hd hn (.cells (a.eval x).cells e)
          exact ⟨_, .cells (a.eval x).cells e, boxv _ rfl, orel_cells h (asCells_sound (opd_sound h0 hy) hcs), ptr _ _⟩
        · cases he
      · cases he
    · cases hc
  case buildSlice t len ps =>
    split at hc
    · rename_i e hu
      obtain ⟨n, hn', hc⟩ := bind_some' hc
      obtain ⟨z, hz, hc⟩ := bind_some' hc
      split at hc
      · rename_i hb
        obtain ⟨hb1, hb2, hb3⟩ := hb
        obtain ⟨ps', hps, rfl⟩ := map_some' hc
        simp only [evN] at he
        split at he
        · rename_i l hl
          split at he
          · rename_i hmax
            cases he
            obtain ⟨v, hv, hrel⟩ := zeroP_sound' (P := P) hz
            obtain ⟨hv', hrel0⟩ := hrel w w A
            have hparts := partsP_sound h hps hl
            have hvs : v.cells.toList.length = n := by rw [← hrel0.length]; exact hb2
            obtain ⟨ys, hy1, hy2, hy3, hy4⟩ := fillRows (R := PRel A w) (n := n) (len := len) (rows := List.replicate len z) (xs := (List.replicate len v.cells.toList).flatten) hparts (by simp) (rep_len hb2 len) (rep_flat hrel0 len)
            have hst : Still A w (wpush w (.cells ⟨ys⟩ e)) := (WStep.push w _).still h.alt (fun _ _ hf => hf)
            refine ⟨.slice (some ⟨w.heap.size, 0 * n, none⟩) len len, .cells ⟨ys⟩ e, ?_, ?_, ?_⟩
            rotate_left
            · refine orel_arr h (by omega) hy3 ?_ ?_
              · have hy2' : All2 (PRel A (wpush w (.cells ⟨ys⟩ e))) (setRows (List.replicate len z) l).flatten ys := hy2.mono fun _ _ hr => hr.mono (fun _ hb => hb) hst
                rw [List.take_of_length_le (by rw [← hy2.length, flat_len hy3]; exact Nat.le_refl _)]
                exact hy2'
              · have := hy2.length; rw [flat_len hy3] at this; simp; omega
            · have := C0.msl (A := A) (τ := tauP τ d w.heap.size) (w := wpush w (.cells ⟨ys⟩ e)) d 0 n len w.heap.size len none (tauP_same _ _ _) (fun k hk => by cases hk) (Nat.le_refl _)
                ⟨⟨ys⟩, e, wpush_new _ _, by have := hy2.length; rw [flat_len hy3, hy4] at this; simp; omega, fun _ => by have := hy2.length; rw [flat_len hy3, hy4] at this; simp; omega⟩
              exact .v1 (.one (.c0 this))
            · simp only [Nat.zero_mul]
              have hrange : (Array.range (len * n)).map (fun i => v.cells[i % v.cells.size]!) = ⟨(List.replicate len v.cells.toList).flatten⟩ := by
                have := range_rep v.cells.toList len
                rw [hvs] at this
                exact this
              have hps2 : (ps.map fun (i, x) => (i, a.eval x)).toList = ps.toList.map fun p => (p.1, a.eval p.2) := by simp
              have hsz : ¬ len * n > 2 ^ 24 := by omega
              simp only [execOp, Instr.buildSlice, Sem.run_bind, run_und hu, Result.andThen_ok, run_sz hn', if_neg hsz, Sem.run_pure, hps2]
              by_cases h0 : len * n = 0
              · have hlen0 : len = 0 := by
                  rcases Nat.mul_eq_zero.1 h0 with h1 | h1
                  · exact h1
                  · exact absurd h1 hb3
                subst hlen0
                simp only [Nat.zero_mul, if_true, Sem.run_bind, Sem.run_pure, Result.andThen_ok]
                simp only [List.replicate_zero, List.flatten_nil] at hy1
                have e0 : (Array.range 0).map (fun i => (#[] : Array Value)[i % (#[] : Array Value).size]!) = ⟨[]⟩ := by simp
                rw [e0, hy1]
                simp [newRow, newObj, Sem.run]
              · simp only [if_neg h0, Sem.run_bind, hv', Result.andThen_ok, Sem.run_pure]
                rw [hrange, hy1]
                simp [newRow, newObj, Sem.run]
          · cases he
        · cases he
      · cases hc
    · cases hc
  case makeMap t r =>
    cases r with
    | some r => simp only [compN] at hc; cases hc
    | none =>
      cases hc
      simp only [evN] at he
      cases he
      refine ⟨_, .map #[] 0, by simp [execOp, Instr.makeMap, newObj, Sem.run]; rfl, ⟨w.heap.size, #[], 0, tauP_same _ _ _, wpush_new _ _, .enNil, h.fresh⟩, ?_⟩
      exact .v1 (.one (.c0 (.mmap d w.heap.size (tauP_same _ _ _))))
  case makeSlice t l c =>
    split at hc
    · rename_i e hu
      obtain ⟨n, hn', hc⟩ := bind_some' hc
      obtain ⟨z, hz, hc⟩ := bind_some' hc
      split at hc
      · rename_i hb
        obtain ⟨hb1, hb2⟩ := hb
        obtain ⟨by_, hby, hc⟩ := bind_some' hc
        obtain ⟨i0, hi0, rfl⟩ := map_some' hby
        obtain ⟨l', hl', hc⟩ := bind_some' hc
        obtain ⟨c', hc', rfl⟩ := map_some' hc
        have h1 := opd_sound h hl'
        have h2 := opd_sound h hc'
        simp only [evN] at he
        split at he
        · rename_i lv cv hlv hcv
          rw [hlv] at h1; rw [hcv] at h2
          have e1 := int_inv h1
          have e2 := int_inv h2
          split at he
          · rename_i hbd
            obtain ⟨hb3, hb4, hb5, hb6⟩ := hbd
            cases he
            obtain ⟨v, hv, hrel⟩ := zeroP_sound' (P := P) hz
            obtain ⟨hv', hrel0⟩ := hrel w w A
            have hvs : v.cells.toList.length = n := by rw [← hrel0.length]; exact hb1
            have hMax : MaxN = 2 ^ 47 := rfl
            have wl : IntKind.i64.wrap lv = lv := wrap_small (by omega) (by omega)
            have wc : IntKind.i64.wrap cv = cv := wrap_small (by omega) (by omega)
            let ys := (List.replicate cv.toNat v.cells.toList).flatten
            have hlc : lv.toNat ≤ cv.toNat := by omega
            have hysl : ys.length = cv.toNat * n := by simp [ys, hvs]
            have hst : Still A w (wpush w (.cells ⟨ys⟩ e)) := (WStep.push w _).still h.alt (fun _ _ hf => hf)
            refine ⟨.slice (some ⟨w.heap.size, 0 * n, none⟩) lv.toNat cv.toNat, .cells ⟨ys⟩ e, ?_, ?_, ?_⟩
            rotate_left
            · refine orel_arr h (by simp; omega) (rep_len hb1 _) ?_ ?_
              · have hy := rep_flat (hrel0.mono fun _ _ hr => hr.mono (A' := A) (fun _ hb => hb) hst) lv.toNat
                have e3 : ys.take (lv.toNat * n) = (List.replicate lv.toNat v.cells.toList).flatten := by
                  rw [← take_flat n (List.replicate cv.toNat v.cells.toList) (fun r hr => by rw [(List.mem_replicate.1 hr).2]; exact hvs) lv.toNat (by simpa using hlc), List.take_replicate, Nat.min_eq_left hlc]
                simp only [List.length_replicate]
                rw [e3]; exact hy
              · simp only [List.length_replicate]
                show lv.toNat * n ≤ ys.length
                rw [hysl]; exact Nat.mul_le_mul_right n hlc
            · have := C0.msl (A := A) (τ := tauP τ d w.heap.size) (w := wpush w (.cells ⟨ys⟩ e)) d 0 n lv.toNat w.heap.size cv.toNat (some cv.toNat) (tauP_same _ _ _) (fun k hk => by cases hk; rfl) hlc
                ⟨⟨ys⟩, e, wpush_new _ _, by show (0 + cv.toNat) * n ≤ ys.length; rw [hysl, Nat.zero_add]; exact Nat.le_refl _, fun hq => by cases hq⟩
              exact .v1 (.one (.c0 this))
            · simp only [Nat.zero_mul]
              have hrange : (Array.range (cv.toNat * n)).map (fun i => v.cells[i % v.cells.size]!) = ⟨ys⟩ := by
                have := range_rep v.cells.toList cv.toNat
                rw [hvs] at this
                exact this
              have tl : ∀ m : Int, 0 ≤ m → m ≤ cv → (decide (m < 0) || decide ((i0.bytes : Int) * m > 2 ^ 48)) = false := by
                intro m hm0 hm1
                have : (i0.bytes : Int) * m ≤ cv * i0.bytes := by rw [Int.mul_comm]; exact Int.mul_le_mul_of_nonneg_right hm1 (by omega)
                simp; constructor <;> omega
              have hroom : ¬ cv.toNat * i0.bytes > roomBytes := by
                have : ((cv.toNat * i0.bytes : Nat) : Int) ≤ 2 ^ 47 := by rw [Int.natCast_mul, Int.toNat_of_nonneg (by omega)]; omega
                unfold roomBytes; omega
              simp only [execOp, Instr.makeSlice, Sem.run_bind, run_und hu, Result.andThen_ok, run_sz hn', run_ti hi0, Sem.run_pure, e1, e2, asInt, asIntOf, wl, wc, tl cv (by omega) (by omega)]
              have hcond : (false || decide (lv < 0) || decide (lv > cv)) = false := by simp; constructor <;> omega
              simp only [hcond, Bool.false_eq_true, if_false, Sem.run_bind, askRoom, if_neg hroom, Sem.run_pure, Result.andThen_ok, run_sz hn']
              by_cases h0 : cv.toNat * n = 0
              · have hc0 : cv.toNat = 0 := by
                  rcases Nat.mul_eq_zero.1 h0 with h1 | h1
                  · exact h1
                  · exact absurd h1 hb2
                have hys0 : ys = [] := by simp [ys, hc0]
                have hl0 : lv.toNat = 0 := by omega
                rw [hys0, hl0, hc0]
                simp only [Nat.zero_mul, if_true, Sem.run_bind, Sem.run_pure, Result.andThen_ok]
                simp [newRow, newObj, Sem.run]
                rw [show Array.map (fun (_ : Nat) => (default : Value)) (Array.range 0) = ⟨[]⟩ from by apply Array.ext'; simp]
              · simp only [if_neg h0, Sem.run_bind, hv', Result.andThen_ok, Sem.run_pure]
                rw [hrange]
                simp [newRow, newObj, Sem.run]
          · cases he
        · cases he
      · cases hc
    · cases hc
end sound
end Go.AM

