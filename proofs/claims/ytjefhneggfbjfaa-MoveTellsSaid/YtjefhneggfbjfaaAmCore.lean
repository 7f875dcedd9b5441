import Derived.ScopeJumps
import Derived.RangeFuncWrites
import Derived.RangeFuncLeaves
import Derived.Below
import Derived.KernelRfl
namespace Go.AM
open Go.RowKit (Below)

/-! ### lists, two by two -/
inductive All2 {α β : Type} (R : α → β → Prop) : List α → List β → Prop
  | nil : All2 R [] []
  | cons {a b as bs} (h : R a b) (t : All2 R as bs) : All2 R (a :: as) (b :: bs)

theorem All2.mono {α β : Type} {R S : α → β → Prop} (h : ∀ a b, R a b → S a b) {as : List α} {bs : List β} (k : All2 R as bs) : All2 S as bs := by
  induction k with
  | nil => exact .nil
  | cons x _ ih => exact .cons (h _ _ x) ih

theorem All2.length {α β : Type} {R : α → β → Prop} {as : List α} {bs : List β} (k : All2 R as bs) : as.length = bs.length := by
  induction k with
  | nil => rfl
  | cons _ _ ih => simp [ih]

theorem All2.get {α β : Type} {R : α → β → Prop} {as : List α} {bs : List β} (k : All2 R as bs) : ∀ (i : Nat) (a : α), as[i]? = some a → ∃ b, bs[i]? = some b ∧ R a b := by
  induction k with
  | nil => intro i a h; simp at h
  | cons x _ ih =>
    intro i a h
    cases i with
    | zero => simp at h; subst h; exact ⟨_, rfl, x⟩
    | succ i => simpa using ih i a (by simpa using h)

theorem All2.of_get {α β : Type} {R : α → β → Prop} : ∀ {as : List α} {bs : List β}, as.length = bs.length → (∀ (i : Nat) a b, as[i]? = some a → bs[i]? = some b → R a b) → All2 R as bs
  | [], [], _, _ => .nil
  | [], _ :: _, h, _ => by simp at h
  | _ :: _, [], h, _ => by simp at h
  | a :: as, b :: bs, h, k => .cons (k 0 a b rfl rfl) (All2.of_get (by simpa using h) (fun i x y hx hy => k (i + 1) x y (by simpa using hx) (by simpa using hy)))

theorem All2.append {α β : Type} {R : α → β → Prop} {as as' : List α} {bs bs' : List β} (h : All2 R as bs) (k : All2 R as' bs') : All2 R (as ++ as') (bs ++ bs') := by
  induction h with
  | nil => exact k
  | cons x _ ih => exact .cons x ih

theorem All2.take {α β : Type} {R : α → β → Prop} {as : List α} {bs : List β} (h : All2 R as bs) (n : Nat) : All2 R (as.take n) (bs.take n) := by
  induction h generalizing n with
  | nil => simpa using All2.nil
  | cons x _ ih => cases n with
    | zero => exact .nil
    | succ n => exact .cons x (ih n)

theorem All2.drop {α β : Type} {R : α → β → Prop} {as : List α} {bs : List β} (h : All2 R as bs) (n : Nat) : All2 R (as.drop n) (bs.drop n) := by
  induction h generalizing n with
  | nil => simpa using All2.nil
  | cons x t ih => cases n with
    | zero => exact .cons x t
    | succ n => exact ih n

theorem All2.set {α β : Type} {R : α → β → Prop} {as : List α} {bs : List β} (h : All2 R as bs) (n : Nat) {a : α} {b : β} (hab : R a b) : All2 R (as.set n a) (bs.set n b) := by
  induction h generalizing n with
  | nil => simpa using All2.nil
  | cons x t ih => cases n with
    | zero => exact .cons hab t
    | succ n => exact .cons x (ih n)

/-- the value of one cell -/
def cell1 : Value → Bool
  | .agg _ | .tuple _ => false
  | _ => true

/-! ### pure data -/
inductive PV where
  | top
  | int (k : IntKind) (n : Int)
  | bool (b : Bool)
  | str (s : ByteArray)
  | nilF
  | nilI
  | nilP
  | sl (rows : List (List PV))
  | fn (f : FuncId) (first caps : List PV)
  | box (cells : List PV)
  | map (es : List (Int × Bool × List PV))
  | ifc (t : TypeId) (c : PV)
  | ifcA (t : TypeId) (cs : List PV)

inductive J where
  | p (v : PV) (x : Value)
  | ps (vs : List PV) (xs : List Value)
  | at_ (vs : List PV) (b off : Nat)
  | en (es : List (Int × Bool × List PV)) (xs : List MapEntry)

def MaxN : Nat := 2 ^ 47

/-- how pure data read in a world, from blocks of A alone -/
inductive Rel (A : Nat → Prop) (w : World) : J → Prop
  | top (x : Value) (h : cell1 x = true) : Rel A w (.p .top x)
  | int (k : IntKind) (n : Int) : Rel A w (.p (.int k n) (.int k n))
  | bool (b : Bool) : Rel A w (.p (.bool b) (.bool b))
  | str (s : ByteArray) : Rel A w (.p (.str s) (.string s))
  | nilF : Rel A w (.p .nilF .nilFunc)
  | nilI : Rel A w (.p .nilI .nilIface)
  | nilP : Rel A w (.p .nilP (.pointer none))
  | nil (a : Option Addr) (cap : Nat) : Rel A w (.p (.sl []) (.slice a 0 cap))
  | sl (rows : List (List PV)) (b off cap s : Nat) (hA : A b) (hs : ∀ r ∈ rows, r.length = s) (hl : rows.length ≤ MaxN) (hc : rows.length ≤ cap)
      (h : Rel A w (.at_ rows.flatten b off)) : Rel A w (.p (.sl rows) (.slice (some ⟨b, off, none⟩) rows.length cap))
  | fn (f : FuncId) (first caps : List PV) (vf vc : List Value) (h1 : Rel A w (.ps first vf)) (h2 : Rel A w (.ps caps vc)) :
      Rel A w (.p (.fn f first caps) (.func (.func f) ⟨vf⟩ ⟨vc⟩))
  | box (cells : List PV) (b off : Nat) (hA : A b) (h : Rel A w (.at_ cells b off)) : Rel A w (.p (.box cells) (.pointer (some ⟨b, off, none⟩)))
  | map (es : List (Int × Bool × List PV)) (b : Nat) (ces : Array MapEntry) (clock : Nat) (hA : A b) (hb : w.heap[b]? = some (.map ces clock))
      (h : Rel A w (.en es ces.toList)) : Rel A w (.p (.map es) (.map (some b)))
  | ifc (t : TypeId) (c : PV) (x : Value) (h : Rel A w (.p c x)) : Rel A w (.p (.ifc t c) (.iface t x))
  | ifcA (t : TypeId) (cs : List PV) (xs : List Value) (h : Rel A w (.ps cs xs)) : Rel A w (.p (.ifcA t cs) (.iface t (.agg ⟨xs⟩)))
  | psNil : Rel A w (.ps [] [])
  | psCons (c : PV) (x : Value) (cs : List PV) (xs : List Value) (h : Rel A w (.p c x)) (t : Rel A w (.ps cs xs)) : Rel A w (.ps (c :: cs) (x :: xs))
  | atNil (b off : Nat) : Rel A w (.at_ [] b off)
  | atCons (c : PV) (cs : List PV) (b off : Nat) (x : Value) (hx : w.cell? ⟨b, off, none⟩ = some x) (h : Rel A w (.p c x)) (t : Rel A w (.at_ cs b (off + 1))) :
      Rel A w (.at_ (c :: cs) b off)
  | enNil : Rel A w (.en [] [])
  | enOne (k : Int) (c : PV) (x : Value) (born : Nat) (es : List (Int × Bool × List PV)) (xs : List MapEntry) (h : Rel A w (.p c x)) (t : Rel A w (.en es xs)) :
      Rel A w (.en ((k, false, [c]) :: es) (⟨.int .i64 k, x, born⟩ :: xs))
  | enAgg (k : Int) (cs : List PV) (vs : List Value) (born : Nat) (es : List (Int × Bool × List PV)) (xs : List MapEntry) (h : Rel A w (.ps cs vs)) (t : Rel A w (.en es xs)) :
      Rel A w (.en ((k, true, cs) :: es) (⟨.int .i64 k, .agg ⟨vs⟩, born⟩ :: xs))

/-- blocks of A lie as they lay -/
def Still (A : Nat → Prop) (w w' : World) : Prop := ∀ b, A b → w'.heap[b]? = w.heap[b]?

theorem Still.cell {A : Nat → Prop} {w w' : World} (h : Still A w w') {b : Nat} (hb : A b) (off : Nat) : w'.cell? ⟨b, off, none⟩ = w.cell? ⟨b, off, none⟩ := by
  simp only [World.cell?, h b hb]

/-- the blocks that a cell list lies in -/
theorem Rel.mono {A A' : Nat → Prop} {w w' : World} (hA : ∀ b, A b → A' b) (hw : Still A w w') {j : J} (h : Rel A w j) :
    match j with
    | .at_ vs b off => A b → Rel A' w' (.at_ vs b off)
    | j => Rel A' w' j := by
  induction h with
  | top x h => exact .top x h
  | int k n => exact .int k n
  | bool b => exact .bool b
  | str s => exact .str s
  | nilF => exact .nilF
  | nilI => exact .nilI
  | nilP => exact .nilP
  | nil a cap => exact .nil a cap
  | sl rows b off cap s hb hs hl hc h ih => exact .sl rows b off cap s (hA b hb) hs hl hc (ih hb)
  | fn f first caps vf vc h1 h2 ih1 ih2 => exact .fn f first caps vf vc ih1 ih2
  | box cells b off hb h ih => exact .box cells b off (hA b hb) (ih hb)
  | map es b ces clock hb he h ih => exact .map es b ces clock (hA b hb) ((hw b hb).trans he) ih
  | ifc t c x h ih => exact .ifc t c x ih
  | ifcA t cs xs h ih => exact .ifcA t cs xs ih
  | psNil => exact .psNil
  | psCons c x cs xs h t ih1 ih2 => exact .psCons c x cs xs ih1 ih2
  | atNil b off => exact fun _ => .atNil b off
  | atCons c cs b off x hx h t ih1 ih2 => exact fun hb => .atCons c cs b off x (by rw [hw.cell hb]; exact hx) ih1 (ih2 hb)
  | enNil => exact .enNil
  | enOne k c x born es xs h t ih1 ih2 => exact .enOne k c x born es xs ih1 ih2
  | enAgg k cs vs born es xs h t ih1 ih2 => exact .enAgg k cs vs born es xs ih1 ih2

abbrev PRel (A : Nat → Prop) (w : World) (v : PV) (x : Value) : Prop := Rel A w (.p v x)
abbrev PRels (A : Nat → Prop) (w : World) (vs : List PV) (xs : List Value) : Prop := Rel A w (.ps vs xs)
abbrev PAt (A : Nat → Prop) (w : World) (vs : List PV) (b off : Nat) : Prop := Rel A w (.at_ vs b off)

theorem PRel.mono {A A' : Nat → Prop} {w w' : World} {v : PV} {x : Value} (h : PRel A w v x) (hA : ∀ b, A b → A' b) (hw : Still A w w') : PRel A' w' v x := Rel.mono hA hw h
theorem PRels.mono {A A' : Nat → Prop} {w w' : World} {v : List PV} {x : List Value} (h : PRels A w v x) (hA : ∀ b, A b → A' b) (hw : Still A w w') : PRels A' w' v x := Rel.mono hA hw h
theorem PAt.mono {A A' : Nat → Prop} {w w' : World} {v : List PV} {b off : Nat} (h : PAt A w v b off) (hb : A b) (hA : ∀ b, A b → A' b) (hw : Still A w w') : PAt A' w' v b off := Rel.mono hA hw h hb

theorem PRel.cell1 {A : Nat → Prop} {w : World} {v : PV} {x : Value} (h : PRel A w v x) : cell1 x = true := by
  cases h <;> first | rfl | assumption

theorem PRels.all2 {A : Nat → Prop} {w : World} {vs : List PV} {xs : List Value} : PRels A w vs xs ↔ All2 (PRel A w) vs xs := by
  constructor
  · intro h
    induction vs generalizing xs with
    | nil => cases h; exact .nil
    | cons v vs ih => cases h with | psCons _ _ _ _ h t => exact .cons h (ih t)
  · intro h
    induction h with
    | nil => exact .psNil
    | cons h _ ih => exact .psCons _ _ _ _ h ih

theorem PAt.get {A : Nat → Prop} {w : World} : ∀ {vs : List PV} {b off : Nat}, PAt A w vs b off → ∀ (i : Nat) (v : PV), vs[i]? = some v → ∃ x, w.cell? ⟨b, off + i, none⟩ = some x ∧ PRel A w v x
  | _ :: _, b, off, .atCons c cs _ _ x hx h t, i, v, hi => by
    cases i with
    | zero => simp at hi; subst hi; exact ⟨x, hx, h⟩
    | succ i =>
      obtain ⟨y, hy, hr⟩ := PAt.get t i v (by simpa using hi)
      exact ⟨y, by rw [← hy]; congr 2; omega, hr⟩
  | [], _, _, _, i, v, hi => by simp at hi

theorem PAt.of_get {A : Nat → Prop} {w : World} : ∀ {vs : List PV} {b off : Nat}, (∀ (i : Nat) (v : PV), vs[i]? = some v → ∃ x, w.cell? ⟨b, off + i, none⟩ = some x ∧ PRel A w v x) → PAt A w vs b off
  | [], b, off, _ => .atNil b off
  | v :: vs, b, off, h => by
    obtain ⟨x, hx, hr⟩ := h 0 v rfl
    exact .atCons v vs b off x hx hr (PAt.of_get fun i u hu => by
      obtain ⟨y, hy, hs⟩ := h (i + 1) u (by simpa using hu)
      exact ⟨y, by rw [← hy]; congr 2; omega, hs⟩)

theorem PAt.append {A : Nat → Prop} {w : World} {vs us : List PV} {b off : Nat} (h : PAt A w vs b off) (k : PAt A w us b (off + vs.length)) : PAt A w (vs ++ us) b off := by
  refine PAt.of_get fun i v hi => ?_
  rw [List.getElem?_append] at hi
  split at hi
  · exact h.get i v hi
  · obtain ⟨x, hx, hr⟩ := k.get _ v hi
    exact ⟨x, by rw [← hx]; congr 2; omega, hr⟩

theorem PAt.part {A : Nat → Prop} {w : World} {vs : List PV} {b off : Nat} (h : PAt A w vs b off) (m n : Nat) : PAt A w ((vs.drop m).take n) b (off + m) := by
  refine PAt.of_get fun i v hi => ?_
  have h1 : (vs.drop m)[i]? = some v := by
    rw [List.getElem?_take] at hi
    split at hi
    · exact hi
    · simp at hi
  rw [List.getElem?_drop] at h1
  obtain ⟨x, hx, hr⟩ := h.get _ v h1
  exact ⟨x, by rw [← hx]; congr 2; omega, hr⟩

end Go.AM

