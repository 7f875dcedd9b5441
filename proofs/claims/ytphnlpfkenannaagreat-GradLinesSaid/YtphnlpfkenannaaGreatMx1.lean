import Derived.Test.YtphnlpfkenannaaGreatMx0
import Derived.Laws.Sem
import Derived.Laws.Entries
import Derived.Laws.Cells
set_option linter.unusedVariables false
set_option linter.unusedSimpArgs false
namespace Go.AM
open Go.RowKit (Below)
abbrev Env := List (Nat × AV)
abbrev Sto := List (Nat × AO)
inductive Opd where
  | t (i : Nat)
  | c (v : AV)
def get (e : Env) : Opd → AV
  | .t i => lk e i
  | .c v => v
def constAC : Value → Option AC
  | .bool b => some (.p (.bool b))
  | .int k n => some (.p (.int k n))
  | .string s => some (.p (.str s))
  | .slice none 0 0 => some .nils
  | .pointer none => some (.p .nilP)
  | .nilFunc => some (.p .nilF)
  | .nilIface => some (.p .nilI)
  | .map none => some (.raw (.map none))
  | .chan none => some (.raw (.chan none))
  | _ => none
def constACs : List Value → Option (List AC)
  | [] => some []
  | v :: vs => (constAC v).bind fun c => (constACs vs).map (c :: ·)
def constAV : Value → Option AV
  | .agg cs => (constACs cs.toList).map .agg
  | v => (constAC v).map .one
def opd : Operand → Option Opd
  | .tmp t => some (.t t)
  | .const v => (constAV v).map .c
  | .func f => some (.c (.one (.p (.fn f [] []))))
  | .global _ => none
def opdO : Option Operand → Option (Option Opd)
  | none => some none
  | some o => (opd o).map some
theorem constAC_sound {A : Nat → Prop} {τ : Tau} {w : World} {v : Value} {c : AC} (h : constAC v = some c) : CRel A τ w c v := by
  unfold constAC at h
  split at h <;> first | (cases h; first | exact .c0 (.p _ _ (by constructor)) | exact .c0 .nils | exact .c0 (.raw _ rfl)) | cases h
theorem constACs_sound {A : Nat → Prop} {τ : Tau} {w : World} : ∀ {vs : List Value} {cs : List AC}, constACs vs = some cs → All2 (CRel A τ w) cs vs
  | [], cs, h => by simp [constACs] at h; subst h; exact .nil
  | v :: vs, cs, h => by
    simp only [constACs] at h
    cases h1 : constAC v with
    | none => simp [h1] at h
    | some c =>
      cases h2 : constACs vs with
      | none => simp [h1, h2] at h
      | some cs' =>
        simp [h1, h2] at h
        subst h
        exact .cons (constAC_sound h1) (constACs_sound h2)
theorem constAV_sound {A : Nat → Prop} {τ : Tau} {w : World} {v : Value} {c : AV} (h : constAV v = some c) : VRel A τ w c v := by
  unfold constAV at h
  split at h
  · rename_i cs
    cases h1 : constACs cs.toList with
    | none => simp [h1] at h
    | some l => simp [h1] at h; subst h; exact .v1 (.agg (by simpa using constACs_sound h1))
  · cases h1 : constAC v with
    | none => simp [h1] at h
    | some l => simp [h1] at h; subst h; exact .v1 (.one (constAC_sound h1))
theorem opd_sound {G : Ground} {s : AS} {a : Act} {w : World} {A : Nat → Prop} {τ : Tau} (h : SimAt G s a w A τ) {o : Operand} {x : Opd} (hx : opd o = some x) :
    VRel A τ w (get s.env x) (a.eval o) := by
  cases o with
  | tmp t => simp [opd] at hx; subst hx; exact h.env t
  | const v =>
    simp only [opd] at hx
    cases h1 : constAV v with
    | none => simp [h1] at hx
    | some c => simp [h1] at hx; subst hx; exact constAV_sound h1
  | func f => simp [opd] at hx; subst hx; exact .v1 (.one (.c0 (.p _ _ (.fn f [] [] [] [] .psNil .psNil))))
  | global g => simp [opd] at hx
def opds : List Operand → Option (List Opd)
  | [] => some []
  | o :: os => (opd o).bind fun x => (opds os).map (x :: ·)
def gets (e : Env) : List Opd → List AV
  | [] => []
  | x :: xs => get e x :: gets e xs
theorem opds_sound {G : Ground} {s : AS} {a : Act} {w : World} {A : Nat → Prop} {τ : Tau} (h : SimAt G s a w A τ) :
    ∀ {os : List Operand} {xs : List Opd}, opds os = some xs → All2 (VRel A τ w) (gets s.env xs) (os.map a.eval)
  | [], xs, hx => by simp [opds] at hx; subst hx; exact .nil
  | o :: os, xs, hx => by
    simp only [opds] at hx
    cases h1 : opd o with
    | none => simp [h1] at hx
    | some x =>
      cases h2 : opds os with
      | none => simp [h1, h2] at hx
      | some xs' =>
        simp [h1, h2] at hx
        subst hx
        exact .cons (opd_sound h h1) (opds_sound h h2)
inductive QOp where
  | mov (x : Opd)
  | pick (c a b : Opd)
  | load (n : Nat) (g : Bool) (a : Opd)
  | bin (op : BinOp) (x y : Opd)
  | eqB (neg : Bool) (x y : Opd)
  | eqN (kd : Nat) (neg : Bool) (x y : Opd)
  | un (op : UnOp) (x : Opd)
  | conv (k : IntKind) (x : Opd)
  | faddr (off : Nat) (x : Opd)
  | iaddr (s : Nat) (x i : Opd)
  | iaddrA (len s : Nat) (x i : Opd)
  | extr (x : Opd) (i : Nat)
  | len (x : Opd)
  | mkF (f : FuncId) (first caps : List Opd)
  | build (z : List AC) (ps : List (Nat × Nat × Opd))
  | nck (x : Opd)
  | slc (s : Nat) (x : Opd) (l h m : Option Opd)
  | slcA (n s : Nat) (x : Opd) (l h m : Option Opd)
  | mm (g : Bool) (x y : Opd)
  | sidx (x i : Opd)
  | cap (x : Opd)
  | mlen (x : Opd)
  | slen (x : Opd)
  | mget (z : AV) (ok : Bool) (x k : Opd)
  | carry (sub : Bool) (x y c : Opd)
  | ovl (s : Nat) (x y : Opd)
  | mkI (t : TypeId) (x : Opd)
  | tas (t : TypeId) (ok : Bool) (z : AV) (x : Opd)
def pint (k : IntKind) (n : Int) : AV := .one (.p (.int k n))
def pbool (b : Bool) : AV := .one (.p (.bool b))
def ldP (n : Nat) (g : Bool) (cells : List PV) : Option AV :=
  if g then (if n ≤ cells.length then some (.agg ((cells.take n).map .p)) else none)
  else match cells with
    | c :: _ => some (.one (.p c))
    | [] => none
def ldC (n : Nat) (g : Bool) (cells : List AC) : Option AV :=
  if g then (if n ≤ cells.length then some (.agg (cells.take n)) else none)
  else match cells with
    | c :: _ => some (.one c)
    | [] => none
def ldO (n : Nat) (g : Bool) (i s off : Nat) : AO → Option AV
  | .cells _ cs => if i = 0 then ldC n g (cs.drop off) else none
  | .arr _ s' rows => if s' = s then
      (if g && i == 0 && off == 0 && n != s then (if n = rows.flatten.length then ldP n g rows.flatten else none)
       else match rows[i]? with
        | some r => ldP n g (r.drop off)
        | none => none) else none
  | _ => none
def andZ (k : IntKind) (a b : Int) : Int := k.wrap (BitVec.ofInt k.bits a &&& BitVec.ofInt k.bits b).toNat
def orZ (k : IntKind) (a b : Int) : Int := k.wrap (BitVec.ofInt k.bits a ||| BitVec.ofInt k.bits b).toNat
def xorZ (k : IntKind) (a b : Int) : Int := k.wrap (BitVec.ofInt k.bits a ^^^ BitVec.ofInt k.bits b).toNat
def shlZ (k : IntKind) (a b : Int) : Int := k.wrap (a * 2 ^ (min b.toNat k.bits))
def shrZ (k : IntKind) (a b : Int) : Int := a.fdiv (2 ^ (min b.toNat k.bits))
def evBin (op : BinOp) (k : IntKind) (a b : Int) : Option AV :=
  match op with
  | .add => some (pint k (k.wrap (a + b)))
  | .sub => some (pint k (k.wrap (a - b)))
  | .mul => some (pint k (k.wrap (a * b)))
  | .quo => if b = 0 then none else some (pint k (k.wrap (a.tdiv b)))
  | .rem => if b = 0 then none else some (pint k (a.tmod b))
  | .and => some (pint k (andZ k a b))
  | .or => some (pint k (orZ k a b))
  | .xor => some (pint k (xorZ k a b))
  | .eql => some (pbool (a == b))
  | .neq => some (pbool (a != b))
  | .lss => some (pbool (decide (a < b)))
  | .leq => some (pbool (decide (a ≤ b)))
  | .gtr => some (pbool (decide (a > b)))
  | .geq => some (pbool (decide (a ≥ b)))
  | _ => none
def evBinV (op : BinOp) (x y : AV) : Option AV :=
  match op, x, y with
  | .shl, .one (.p (.int k a)), .one (.p (.int _ b)) => if b < 0 then none else some (pint k (shlZ k a b))
  | .shr, .one (.p (.int k a)), .one (.p (.int _ b)) => if b < 0 then none else some (pint k (shrZ k a b))
  | op, .one (.p (.int k a)), .one (.p (.int k' b)) => if k = k' then evBin op k a b else none
  | _, _, _ => none
def isNeq : BinOp → Bool
  | .neq => true
  | _ => false
def isNilC : AC → Option Bool
  | .nils | .p .nilF | .p .nilI | .p .nilP => some true
  | .p (.fn _ _ _) | .mfn _ _ _ | .p (.ifc _ _) | .p (.ifcA _ _) | .p (.box _) | .ptr _ _ _ _ => some false
  | .p (.sl rows) => if rows.isEmpty then none else some false
  | .msl _ _ _ len _ => if len = 0 then none else some false
  | _ => none
def isNilK : Nat → AC → Option Bool
  | 0, .nils => some true
  | 0, .p (.sl rows) => if rows.isEmpty then none else some false
  | 0, .msl _ _ _ len _ => if len = 0 then none else some false
  | 1, .p .nilF => some true
  | 1, .p (.fn _ _ _) | 1, .mfn _ _ _ => some false
  | 2, .p .nilI => some true
  | 2, .p (.ifc _ _) | 2, .p (.ifcA _ _) => some false
  | _, _ => none
def evNil (kd : Nat) (neg : Bool) (c d : AC) : Option AV :=
  match isNilK kd c, isNilK kd d with
  | some a, some true => some (pbool (if neg then !a else a))
  | some true, some b => some (pbool (if neg then !b else b))
  | _, _ => none
def fillC (cells : List AC) : List (Nat × List AC) → List AC
  | [] => cells
  | (off, cs) :: ps => fillC (cells.take off ++ cs ++ cells.drop (off + cs.length)) ps
def asCells : AV → Option (List AC)
  | .one c => some [c]
  | .agg cs => some cs
  | _ => none
def parts (e : Env) : List (Nat × Nat × Opd) → Option (List (Nat × List AC))
  | [] => some []
  | (off, n, x) :: ps => match asCells (get e x) with
    | some cs => if cs.length = n then (parts e ps).map ((off, cs) :: ·) else none
    | none => none
def acs : List AV → Option (List AC)
  | [] => some []
  | .one c :: vs => (acs vs).map (c :: ·)
  | _ => none
def C0ok : AC → Bool
  | .mfn _ _ _ => false
  | _ => true
def pvs : List AC → Option (List PV)
  | [] => some []
  | .p v :: cs => (pvs cs).map (v :: ·)
  | .nils :: cs => (pvs cs).map (.sl [] :: ·)
  | _ => none
def bndI (e : Env) (d : Int) : Option Opd → Option Int
  | none => some d
  | some x => match get e x with
    | .one (.p (.int _ n)) => some n
    | _ => none
def roomOf (σ : Sto) (t o s len : Nat) : Option Nat → Nat
  | some n => n
  | none => match lo σ t with
    | .arr _ s2 rows => if s2 = s ∧ s ≠ 0 then rows.length - o else len
    | _ => len
def slcC (t o s l h : Nat) (cap : Option Nat) : Option Nat → AC
  | some m => if l = m then .msl t o s 0 (some 0) else .msl t (o + l) s (h - l) (some (m - l))
  | none => if l = 0 then .msl t o s h cap
    else if l < h then .msl t (o + l) s (h - l) (cap.map (· - l))
    else match cap with
      | some n => if l = n then .msl t o s 0 (some 0) else .msl t (o + l) s 0 (some (n - l))
      | none => .p (.sl [])
def findE (n : Int) : List (Int × Bool × List PV) → Option (Bool × List PV)
  | [] => none
  | p :: r => if p.1 = n then some p.2 else findE n r
def entV : Bool × List PV → Option AV
  | (true, cs) => some (.agg (cs.map .p))
  | (false, [c]) => some (.one (.p c))
  | _ => none
def entriesOf (e : Env) (σ : Sto) (x : Opd) : Option (List (Int × Bool × List PV)) :=
  match get e x with
  | .one (.p (.map es)) => some es
  | .one (.mmap t) => match lo σ t with
    | .map _ es => some es
    | _ => none
  | _ => none
def carryN (sub : Bool) (x y c : Nat) : Nat × Nat :=
  if sub then ((x + 2 ^ 64 - y - c) % 2 ^ 64, if x < y + c then 1 else 0) else ((x + y + c) % 2 ^ 64, (x + y + c) / 2 ^ 64)
def evQ (q : QOp) (e : Env) (σ : Sto) : Option AV :=
  match q with
  | .mov x => some (get e x)
  | .pick c a b => match get e c with
    | .one (.p (.bool t)) => some (bif t then get e a else get e b)
    | _ => none
  | .load n g a => match get e a with
    | .one (.p (.box cells)) => ldP n g cells
    | .one (.ptr t i s off) => ldO n g i s off (lo σ t)
    | _ => none
  | .bin op x y => evBinV op (get e x) (get e y)
  | .eqB neg x y => match get e x, get e y with
    | .one (.p (.bool a)), .one (.p (.bool b)) => some (pbool (if neg then !(a == b) else a == b))
    | _, _ => none
  | .eqN kd neg x y => match get e x, get e y with
    | .one c, .one d => evNil kd neg c d
    | _, _ => none
  | .un op x => match op, get e x with
    | .not, .one (.p (.bool b)) => some (pbool (!b))
    | .neg, .one (.p (.int k n)) => some (pint k (k.wrap (0 - n)))
    | _, _ => none
  | .conv k x => match get e x with
    | .one (.p (.int _ n)) => some (pint k (k.wrap n))
    | _ => none
  | .faddr off x => match get e x with
    | .one (.p (.box cells)) => some (.one (.p (.box (cells.drop off))))
    | .one (.ptr t i s o) => some (.one (.ptr t i s (o + off)))
    | _ => none
  | .iaddr s x i => match get e x, get e i with
    | .one (.p (.sl rows)), .one (.p (.int _ n)) =>
      if 0 ≤ n ∧ n < rows.length then match rows[n.toNat]? with
        | some r => if r.length = s then some (.one (.p (.box r))) else none
        | none => none
      else none
    | .one (.msl t o s' len _), .one (.p (.int _ n)) => if s' = s ∧ 0 ≤ n ∧ n < len then some (.one (.ptr t (o + n.toNat) s 0)) else none
    | _, _ => none
  | .iaddrA len s x i => match get e x, get e i with
    | .one (.ptr t 0 s' 0), .one (.p (.int _ n)) => if s' = s ∧ 0 ≤ n ∧ n < len then some (.one (.ptr t n.toNat s 0)) else none
    | .one (.p (.box cells)), .one (.p (.int _ n)) => if 0 ≤ n ∧ n < len then some (.one (.p (.box (cells.drop (n.toNat * s))))) else none
    | _, _ => none
  | .extr x i => match get e x with
    | .tup vs => vs[i]?
    | _ => none
  | .len x => match get e x with
    | .one (.p (.sl rows)) => some (pint .i64 rows.length)
    | .one .nils => some (pint .i64 0)
    | .one (.msl _ _ _ len _) => some (pint .i64 len)
    | _ => none
  | .mlen x => match entriesOf e σ x with
    | some es => some (pint .i64 es.length)
    | _ => none
  | .slen x => match get e x with
    | .one (.p (.str s)) => some (pint .i64 s.size)
    | _ => none
  | .mkF f first caps => match acs (gets e first), acs (gets e caps) with
    | some a, some b => if (a ++ b).all C0ok then (match pvs a, pvs b with
        | some u, some v => some (.one (.p (.fn f u v)))
        | _, _ => some (.one (.mfn f a b))) else none
    | _, _ => none
  | .build z ps => match parts e ps with
    | some l => if (l.all fun p => p.1 + p.2.length ≤ z.length) then some (.agg (fillC z l)) else none
    | none => none
  | .nck x => match get e x with
    | .one c => if isNilC c = some false then some (.one c) else none
    | _ => none
  | .slc s x l h m => match get e x with
    | .one (.p (.sl rows)) => match bndI e 0 l, bndI e rows.length h, bndI e rows.length m with
      | some l, some h, some m => if 0 ≤ l ∧ l ≤ h ∧ h ≤ m ∧ m ≤ rows.length ∧ rows.all (fun r => r.length == s) = true then some (.one (.p (.sl ((rows.drop l.toNat).take (h.toNat - l.toNat))))) else none
      | _, _, _ => none
    | .one .nils => match bndI e 0 l, bndI e 0 h, bndI e 0 m with
      | some l, some h, some m => if l = 0 ∧ h = 0 ∧ m = 0 then some (.one .nils) else none
      | _, _, _ => none
    | .one (.msl t o s' len cap) => match bndI e 0 l, bndI e len h, bndI e (roomOf σ t o s len cap) m with
      | some l, some h, some k => if s' = s ∧ 0 ≤ l ∧ l ≤ h ∧ h ≤ k ∧ k ≤ roomOf σ t o s len cap then some (.one (slcC t o s l.toNat h.toNat cap (m.map fun _ => k.toNat))) else none
      | _, _, _ => none
    | _ => none
  | .slcA n s x l h m => match get e x with
    | .one (.ptr t 0 s' 0) => match lo σ t, bndI e 0 l, bndI e n h, bndI e n m with
      | .arr _ s2 rows, some l, some h, some m => if s' = s ∧ s2 = s ∧ rows.length = n ∧ 0 ≤ l ∧ l ≤ h ∧ h ≤ m ∧ m ≤ n then some (.one (slcC t 0 s l.toNat h.toNat none (some m.toNat))) else none
      | _, _, _, _ => none
    | _ => none
  | .mm g x y => match get e x, get e y with
    | .one (.p (.int k a)), .one (.p (.int _ b)) => some (pint k (if g then max a b else min a b))
    | _, _ => none
  | .sidx x i => match get e x, get e i with
    | .one (.p (.str s)), .one (.p (.int _ n)) => if 0 ≤ n then (match s[n.toNat]? with
      | some b => some (pint .u8 b.toNat)
      | none => none) else none
    | _, _ => none
  | .cap x => match get e x with
    | .one (.msl _ _ _ _ (some n)) => some (pint .i64 n)
    | .one .nils => some (pint .i64 0)
    | _ => none
  | .carry sb x y c => match get e x, get e y, get e c with
    | .one (.p (.int _ a)), .one (.p (.int _ b)), .one (.p (.int _ k)) => if k = 0 ∨ k = 1 then some (.tup [pint .u64 (carryN sb a.toNat b.toNat k.toNat).1, pint .u64 (carryN sb a.toNat b.toNat k.toNat).2]) else none
    | _, _, _ => none
  | .ovl s x y => match get e x, get e y with
    | .one (.msl t _ s1 _ _), .one (.msl u _ s2 _ _) => match lo σ t, lo σ u with
      | .arr true _ _, .arr _ _ _ => if t ≠ u ∧ s1 = s ∧ s2 = s ∧ s ≠ 0 then some (pbool false) else none
      | _, _ => none
    | _, _ => none
  | .mkI t x => match get e x with
    | .one (.p c) => some (.one (.p (.ifc t c)))
    | .agg cs => (pvs cs).map fun vs => .one (.p (.ifcA t vs))
    | _ => none
  | .tas t ok z x => match get e x with
    | .one (.p .nilI) => if ok then some (.tup [z, pbool false]) else none
    | .one (.p (.ifc u c)) => if u = t then some (if ok then .tup [.one (.p c), pbool true] else .one (.p c)) else if ok then some (.tup [z, pbool false]) else none
    | .one (.p (.ifcA u cs)) => if u = t then some (if ok then .tup [.agg (cs.map .p), pbool true] else .agg (cs.map .p)) else if ok then some (.tup [z, pbool false]) else none
    | _ => none
  | .mget z ok x k => match entriesOf e σ x, get e k with
    | some es, .one (.p (.int .i64 n)) => match (match findE n es with
        | some r => (entV r).map fun v => (v, true)
        | none => some (z, false)) with
      | some (v, b) => some (if ok then .tup [v, pbool b] else v)
      | none => none
    | _, _ => none
def szOf (P : Program) (t : TypeId) : Option Nat := (P.info? t).map (·.size)
def aggOf (P : Program) (t : TypeId) : Option Bool := (P.underlying t).map fun | .struct _ | .array _ _ => true | _ => false
def places (P : Program) (fs : Array Field) : List (Nat × Operand) → Option (List (Nat × Nat × Opd))
  | [] => some []
  | (i, x) :: ps => (fs[i]?).bind fun f => (szOf P f.type).bind fun n => (opd x).bind fun y => (places P fs ps).map ((f.offset, n, y) :: ·)
def placesA (n : Nat) : List (Nat × Operand) → Option (List (Nat × Nat × Opd))
  | [] => some []
  | (i, x) :: ps => (opd x).bind fun y => (placesA n ps).map ((i * n, n, y) :: ·)
def isConstO : Operand → Bool
  | .const _ => true
  | _ => false
def extOf (P : Program) (f : FuncId) : Option Nat :=
  match P.funcs[f]? with
  | some fn => if fn.body.isNone = true then
      (if fn.origin = "" ∧ fn.name = "math/bits.Add64" then some 0 else if fn.origin = "" ∧ fn.name = "math/bits.Sub64" then some 1
       else if fn.origin = "slices.overlaps" ∧ fn.name = "slices.overlaps[int]" then some 2 else none) else none
  | none => none
def parSz (P : Program) (f : FuncId) : Option Nat :=
  match P.funcs[f]? with
  | some fn => match fn.params.toList with
    | t :: _ => match P.underlying t with
      | some (.slice e) => szOf P e
      | _ => none
    | [] => none
  | none => none
def compQ (P : Program) (o : Op) : Option QOp :=
  match o with
  | .move x | .assign x => (opd x).map .mov
  | .pick c a b => (opd c).bind fun c => (opd a).bind fun a => (opd b).map fun b => .pick c a b
  | .load t a => (szOf P t).bind fun n => (aggOf P t).bind fun g => (opd a).map fun a => .load n g a
  | .binOp op xt x y _ => (opd x).bind fun x' => (opd y).bind fun y' =>
    match op with
    | .eql | .neq => match P.underlying xt with
      | some (.int _) => some (.bin op x' y')
      | some .bool => some (.eqB (isNeq op) x' y')
      | some (.slice _) => some (.eqN 0 (isNeq op) x' y')
      | some (.func _ _ _) => some (.eqN 1 (isNeq op) x' y')
      | some (.interface _) => if isConstO x || isConstO y then some (.eqN 2 (isNeq op) x' y') else none
      | _ => none
    | _ => some (.bin op x' y')
  | .unOp op _ x => (opd x).map fun x => .un op x
  | .convert src dst x => match P.underlying src, P.underlying dst with
    | some (.int _), some (.int k) => (opd x).map fun x => .conv k x
    | _, _ => none
  | .fieldAddr t x f => match P.underlying t with
    | some (.struct fs) => (fs[f]?).bind fun f => (szOf P f.type).bind fun n => if n = 0 then none else (opd x).map fun x => .faddr f.offset x
    | _ => none
  | .indexAddr t x i => match P.underlying t with
    | some (.slice e) => (szOf P e).bind fun n => (opd x).bind fun x => (opd i).map fun i => .iaddr n x i
    | some (.array len e) => (szOf P e).bind fun n => (opd x).bind fun x => (opd i).map fun i => .iaddrA len n x i
    | _ => none
  | .extract t i => (opd t).map fun t => .extr t i
  | .makeInterface t x => match P.underlying t with
    | some (.interface _) => none
    | some _ => (opd x).map fun x => .mkI t x
    | none => none
  | .typeAssert x _ t ok => match P.underlying t with
    | some (.interface _) => none
    | some _ => (((P.info? t).bind (·.zero)).bind constAV).bind fun z => (opd x).map fun x => .tas t ok z x
    | none => none
  | .nilCheck x => (opd x).map .nck
  | .makeFunc (.func f) first caps => (opds first.toList).bind fun a => (opds caps.toList).map fun b => .mkF f a b
  | .build t ps => match P.underlying t, (P.info? t).bind (·.zero) with
    | some (.struct fs), some z => (constACs z.cells.toList).bind fun z => if fs.all (fun f => (szOf P f.type).isSome) then (places P fs ps.toList).map fun ps => .build z ps else none
    | some (.array _ e), some z => (constACs z.cells.toList).bind fun z => (szOf P e).bind fun n => (placesA n ps.toList).map fun ps => .build z ps
    | _, _ => none
  | .call { callee := .builtin .len, args, argTypes } => match args.toList, (argTypes[0]?).bind P.underlying with
    | [x], some (.slice _) => (opd x).map .len
    | [x], some (.map _ _) => (opd x).map .mlen
    | [x], some .string => (opd x).map .slen
    | _, _ => none
  | .call { callee := .builtin .cap, args, argTypes } => match args.toList, (argTypes[0]?).bind P.underlying with
    | [x], some (.slice _) => (opd x).map .cap
    | _, _ => none
  | .call { callee := .builtin .max, args, .. } => match args.toList with
    | [x, y] => (opd x).bind fun x => (opd y).map fun y => .mm true x y
    | _ => none
  | .call { callee := .builtin .min, args, .. } => match args.toList with
    | [x, y] => (opd x).bind fun x => (opd y).map fun y => .mm false x y
    | _ => none
  | .slice t x l h m => if m.isSome && h.isNone then none else match P.underlying t with
    | some (.slice e) => (szOf P e).bind fun n => (opd x).bind fun x => (opdO l).bind fun l => (opdO h).bind fun h => (opdO m).map fun m => .slc n x l h m
    | some (.array k e) => (szOf P e).bind fun n => (opd x).bind fun x => (opdO l).bind fun l => (opdO h).bind fun h => (opdO m).map fun m => .slcA k n x l h m
    | _ => none
  | .index t x i => match P.underlying t with
    | some .string => (opd x).bind fun x => (opd i).map fun i => .sidx x i
    | _ => none
  | .lookup t x k ok => match P.underlying t with
    | some (.map kt et) => match P.underlying kt with
      | some (.int _) => (((P.info? et).bind (·.zero)).bind constAV).bind fun z => (opd x).bind fun x => (opd k).map fun k => .mget z ok x k
      | _ => none
    | _ => none
  | .call { callee := .value (.func f), args, .. } => match extOf P f, args.toList with
    | some 0, [x, y, c] => (opd x).bind fun x => (opd y).bind fun y => (opd c).map fun c => .carry false x y c
    | some 1, [x, y, c] => (opd x).bind fun x => (opd y).bind fun y => (opd c).map fun c => .carry true x y c
    | some 2, [x, y] => (parSz P f).bind fun n => (opd x).bind fun x => (opd y).map fun y => .ovl n x y
    | _, _ => none
  | _ => none
end Go.AM

namespace Go.AM
open Go.RowKit (Below)
section runs
variable {P : Program} {w : World}
theorem run_und {t : TypeId} {d : TypeDesc} (h : P.underlying t = some d) : (underlying t).run P w = .ok d w := run_underlying h w
theorem run_ti {t : TypeId} {i : TypeInfo} (h : P.info? t = some i) : (typeInfo t).run P w = .ok i w := by
  simp [typeInfo, program, Sem.run, h]
theorem run_sz {t : TypeId} {n : Nat} (h : szOf P t = some n) : (sizeOf t).run P w = .ok n w := by
  unfold szOf at h
  cases hi : P.info? t with
  | none => simp [hi] at h
  | some i => simp [hi] at h; subst h; simp [sizeOf, run_ti hi]
theorem run_agg {t : TypeId} {g : Bool} (h : aggOf P t = some g) : (isAgg t).run P w = .ok g w := by
  unfold aggOf at h
  cases hd : P.underlying t with
  | none => simp [hd] at h
  | some d =>
    simp [hd] at h; subst h
    simp [isAgg, run_und hd]
    cases d <;> rfl
theorem run_loadCellsFrom (a : Addr) : ∀ (xs : List Value) (i : Nat) (acc : Array Value), (∀ j x, xs[j]? = some x → w.cell? (a.add (i + j)) = some x) →
    (loadCellsFrom a i xs.length acc).run P w = .ok (acc ++ ⟨xs⟩) w
  | [], i, acc, _ => by simp [loadCellsFrom]
  | x :: xs, i, acc, h => by
    have h0 := h 0 x rfl
    simp only [Nat.add_zero] at h0
    have ih := run_loadCellsFrom a xs (i + 1) (acc.push x) (fun j y hy => by
      have := h (j + 1) y (by simpa using hy)
      rwa [show i + 1 + j = i + (j + 1) from by omega])
    simp only [List.length_cons, loadCellsFrom, Sem.run_bind, run_load, h0, Result.andThen_ok, ih]
    congr 1
    apply Array.ext'
    simp
theorem add_eq (b off n : Nat) : (⟨b, off, none⟩ : Addr).add n = ⟨b, off + n, none⟩ := by
  unfold Addr.add
  by_cases h : n = 0
  · simp [h]
  · simp [h]
theorem run_loadVarAgg {t : TypeId} {n b off : Nat} (hs : szOf P t = some n) (hg : aggOf P t = some true) {xs : List Value} (hl : xs.length = n)
    (h : ∀ j x, xs[j]? = some x → w.cell? ⟨b, off + j, none⟩ = some x) : (loadVar t ⟨b, off, none⟩).run P w = .ok (.agg ⟨xs⟩) w := by
  subst hl
  have hh := run_loadCellsFrom (P := P) (w := w) ⟨b, off, none⟩ xs 0 #[] (fun j x hx => by rw [add_eq]; simpa using h j x hx)
  simp only [loadVar, Sem.run_bind, run_agg hg, Result.andThen_ok, run_sz hs, loadCells, if_true]
  rw [hh]
  simp
theorem run_loadVarOne {t : TypeId} {b off : Nat} (hg : aggOf P t = some false) {x : Value}
    (h : w.cell? ⟨b, off, none⟩ = some x) : (loadVar t ⟨b, off, none⟩).run P w = .ok x w := by
  simp [loadVar, run_agg hg, h]
end runs
theorem PAt.cells {A : Nat → Prop} {w : World} : ∀ {vs : List PV} {b off : Nat}, PAt A w vs b off → ∃ xs, All2 (PRel A w) vs xs ∧ ∀ j x, xs[j]? = some x → w.cell? ⟨b, off + j, none⟩ = some x
  | [], _, _, _ => ⟨[], .nil, fun j x h => by simp at h⟩
  | _ :: _, b, off, .atCons c cs _ _ x hx h t => by
    obtain ⟨xs, h1, h2⟩ := PAt.cells t
    refine ⟨x :: xs, .cons h h1, fun j y hy => ?_⟩
    cases j with
    | zero => simp at hy; subst hy; exact hx
    | succ j =>
      rw [← h2 j y (by simpa using hy)]; congr 2; omega
theorem take_getElem {α : Type} {l : List α} {n i : Nat} {a : α} (h : (l.take n)[i]? = some a) : l[i]? = some a := by
  rw [List.getElem?_take] at h; split at h
  · exact h
  · simp at h
section load
variable {P : Program} {w : World} {A : Nat → Prop} {τ : Tau}
theorem ldP_sound {t : TypeId} {n b off : Nat} {g : Bool} {cells : List PV} {v : AV} (hs : szOf P t = some n) (hg : aggOf P t = some g) (h : PAt A w cells b off)
    (he : ldP n g cells = some v) : ∃ x, (loadVar t ⟨b, off, none⟩).run P w = .ok x w ∧ VRel A τ w v x := by
  obtain ⟨xs, h1, h2⟩ := h.cells
  unfold ldP at he
  cases g with
  | true =>
    simp only [if_true] at he
    split at he
    · rename_i hn
      cases he
      refine ⟨.agg ⟨xs.take n⟩, run_loadVarAgg hs hg (by simp [h1.length] at hn ⊢; omega) (fun j x hx => h2 j x (take_getElem hx)), .v1 (.agg ?_)⟩
      have := h1.take n
      clear h2 hn h
      generalize cells.take n = cs at this ⊢
      generalize xs.take n = ys at this ⊢
      induction this with
      | nil => exact .nil
      | cons h _ ih => exact .cons (.c0 (.p _ _ h)) ih
    · cases he
  | false =>
    simp only [Bool.false_eq_true, if_false] at he
    split at he
    · rename_i c cs
      cases he
      cases h1 with
      | cons hc _ => exact ⟨_, run_loadVarOne hg (by simpa using h2 0 _ rfl), .v1 (.one (.c0 (.p _ _ hc)))⟩
    · cases he
theorem ldC_sound {t : TypeId} {n b off : Nat} {g : Bool} {cells : List AC} {v : AV} {xs : List Value} (hs : szOf P t = some n) (hg : aggOf P t = some g)
    (h1 : All2 (CRel A τ w) cells xs) (h2 : ∀ (j : Nat) x, xs[j]? = some x → w.cell? ⟨b, off + j, none⟩ = some x)
    (he : ldC n g cells = some v) : ∃ x, (loadVar t ⟨b, off, none⟩).run P w = .ok x w ∧ VRel A τ w v x := by
  unfold ldC at he
  cases g with
  | true =>
    simp only [if_true] at he
    split at he
    · rename_i hn
      cases he
      exact ⟨.agg ⟨xs.take n⟩, run_loadVarAgg hs hg (by simp [h1.length] at hn ⊢; omega) (fun j x hx => h2 j x (take_getElem hx)), .v1 (.agg (h1.take n))⟩
    · cases he
  | false =>
    simp only [Bool.false_eq_true, if_false] at he
    split at he
    · rename_i c cs
      cases he
      cases h1 with
      | cons hc _ => exact ⟨_, run_loadVarOne hg (by simpa using h2 0 _ rfl), .v1 (.one hc)⟩
    · cases he
theorem flatten_get {α : Type} (s : Nat) : ∀ (rows : List (List α)), (∀ r ∈ rows, r.length = s) → ∀ (i j : Nat) (r : List α) (x : α), rows[i]? = some r → r[j]? = some x → rows.flatten[i * s + j]? = some x
  | [], _, i, _, _, _, hi, _ => by simp at hi
  | r0 :: rows, hs, i, j, r, x, hi, hj => by
    have h0 := hs r0 (by simp)
    have hjs : j < r.length := (List.getElem?_eq_some_iff.1 hj).1
    cases i with
    | zero =>
      simp at hi; subst hi
      simp only [List.flatten_cons, Nat.zero_mul, Nat.zero_add]
      rw [List.getElem?_append_left hjs]; exact hj
    | succ i =>
      have hi' : rows[i]? = some r := by simpa using hi
      have ih := flatten_get s rows (fun r hr => hs r (by simp [hr])) i j r x hi' hj
      simp only [List.flatten_cons]
      rw [List.getElem?_append_right (by rw [h0, Nat.succ_mul]; omega), h0, ← ih]
      congr 1
      rw [Nat.succ_mul]; omega
theorem row_at {s i b off : Nat} {rows : List (List PV)} {r : List PV} (hs : ∀ r ∈ rows, r.length = s) (hi : rows[i]? = some r) (h : PAt A w rows.flatten b off) :
    PAt A w r b (off + i * s) := by
  refine PAt.of_get fun j v hj => ?_
  obtain ⟨x, hx, hr⟩ := h.get _ v (flatten_get s rows hs i j r v hi hj)
  exact ⟨x, by rw [← hx]; congr 2; omega, hr⟩
theorem PAt.dropAt {vs : List PV} {b off : Nat} (h : PAt A w vs b off) (m : Nat) : PAt A w (vs.drop m) b (off + m) := by
  refine PAt.of_get fun i v hi => ?_
  rw [List.getElem?_drop] at hi
  obtain ⟨x, hx, hr⟩ := h.get _ v hi
  exact ⟨x, by rw [← hx]; congr 2; omega, hr⟩
theorem ldO_sound {M : Nat → Prop} {t' b : Nat} {t : TypeId} {n i s off : Nat} {g : Bool} {o : AO} {v : AV} (hs : szOf P t = some n) (hg : aggOf P t = some g) (h : ORel M A τ w t' o)
    (hb : τ t' = some b) (he : ldO n g i s off o = some v) : ∃ x, (loadVar t ⟨b, i * s + off, none⟩).run P w = .ok x w ∧ VRel A τ w v x := by
  cases o with
  | none => simp [ldO] at he
  | map m es => simp [ldO] at he
  | cells m cs =>
    obtain ⟨b', xs, e, h1, h2, h3, h4⟩ := h
    obtain rfl : b' = b := by rw [hb] at h1; exact (Option.some.inj h1).symm
    simp only [ldO] at he
    split at he
    · rename_i hi
      subst hi
      refine ldC_sound hs hg (h3.drop off) (fun j x hx => ?_) he
      rw [List.getElem?_drop] at hx
      simp only [World.cell?, h2]
      simpa using hx
    · cases he
  | arr m s' rows =>
    obtain ⟨h0, hl, h⟩ := h
    rcases h with ⟨h1, _⟩ | ⟨b', xs, e, h1, h2, h3, h4, h5⟩
    · rw [hb] at h1; cases h1
    obtain rfl : b' = b := by rw [hb] at h1; exact (Option.some.inj h1).symm
    simp only [ldO] at he
    split at he
    · rename_i hss
      subst hss
      split at he
      · rename_i hc
        simp only [Bool.and_eq_true, beq_iff_eq, bne_iff_ne, ne_eq] at hc
        obtain ⟨⟨⟨hg1, hi⟩, ho⟩, _⟩ := hc
        subst hi ho
        split at he
        · exact ldP_sound hs hg (by simpa using h4) he
        · cases he
      · split at he
        · rename_i r hr
          have := (row_at h0 hr h4).dropAt off
          exact ldP_sound hs hg (by simpa using this) he
        · cases he
    · cases he
end load
section sound
variable {P : Program} {G : Ground} {s : AS} {a : Act} {w : World} {A : Nat → Prop} {τ : Tau}
theorem one_inv {c : AC} {x : Value} (h : VRel A τ w (.one c) x) : CRel A τ w c x := by
  cases h with
  | v1 h => cases h with | one h => exact h
theorem p_inv {v : PV} {x : Value} (h : VRel A τ w (.one (.p v)) x) : PRel A w v x := by
  cases one_inv h with
  | c0 h => cases h with | p _ _ h => exact h
theorem int_inv {k : IntKind} {n : Int} {x : Value} (h : VRel A τ w (.one (.p (.int k n))) x) : x = .int k n := by
  cases p_inv h; rfl
theorem bool_inv {b : Bool} {x : Value} (h : VRel A τ w (.one (.p (.bool b))) x) : x = .bool b := by
  cases p_inv h; rfl
theorem box_inv {cells : List PV} {x : Value} (h : VRel A τ w (.one (.p (.box cells))) x) : ∃ b off, x = .pointer (some ⟨b, off, none⟩) ∧ A b ∧ PAt A w cells b off := by
  cases p_inv h with
  | box _ b off hA h1 => exact ⟨b, off, rfl, hA, h1⟩
theorem ptr_inv {t i s off : Nat} {x : Value} (h : VRel A τ w (.one (.ptr t i s off)) x) : ∃ b, x = .pointer (some ⟨b, i * s + off, none⟩) ∧ τ t = some b := by
  cases one_inv h with
  | c0 h1 => cases h1 with | ptr _ _ _ _ b h2 => exact ⟨b, rfl, h2⟩
theorem pint_rel (k : IntKind) (n : Int) : VRel A τ w (pint k n) (.int k n) := .v1 (.one (.c0 (.p _ _ (.int k n))))
theorem pbool_rel (b : Bool) : VRel A τ w (pbool b) (.bool b) := .v1 (.one (.c0 (.p _ _ (.bool b))))
theorem boxrel {cells : List PV} {b off : Nat} (hA : A b) (h : PAt A w cells b off) : VRel A τ w (.one (.p (.box cells))) (.pointer (some ⟨b, off, none⟩)) :=
  .v1 (.one (.c0 (.p _ _ (.box _ _ _ hA h))))
theorem nil_sound {c : AC} {x : Value} {b : Bool} (h : CRel A τ w c x) (he : isNilC c = some b) :
    (b = true ∧ (x = .slice none 0 0 ∨ x = .nilFunc ∨ x = .nilIface ∨ x = .pointer none)) ∨
    (b = false ∧ ((∃ a l k, x = .slice (some a) l k) ∨ (∃ f u v, x = .func (.func f) u v) ∨ (∃ t v, x = .iface t v) ∨ (∃ a, x = .pointer (some a)))) := by
  unfold isNilC at he
  split at he
  · cases he; left; refine ⟨rfl, ?_⟩; cases h with | c0 h => cases h; exact .inl rfl
  · cases he; left; refine ⟨rfl, ?_⟩; cases h with | c0 h => cases h with | p _ _ h => cases h; exact .inr (.inl rfl)
  · cases he; left; refine ⟨rfl, ?_⟩; cases h with | c0 h => cases h with | p _ _ h => cases h; exact .inr (.inr (.inl rfl))
  · cases he; left; refine ⟨rfl, ?_⟩; cases h with | c0 h => cases h with | p _ _ h => cases h; exact .inr (.inr (.inr rfl))
  · cases he; right; refine ⟨rfl, ?_⟩; cases h with | c0 h => cases h with | p _ _ h => cases h; exact .inr (.inl ⟨_, _, _, rfl⟩)
  · cases he; right; refine ⟨rfl, ?_⟩; cases h with | c0 h => cases h | mfn => exact .inr (.inl ⟨_, _, _, rfl⟩)
  · cases he; right; refine ⟨rfl, ?_⟩; cases h with | c0 h => cases h with | p _ _ h => cases h; exact .inr (.inr (.inl ⟨_, _, rfl⟩))
  · cases he; right; refine ⟨rfl, ?_⟩; cases h with | c0 h => cases h with | p _ _ h => cases h; exact .inr (.inr (.inl ⟨_, _, rfl⟩))
  · cases he; right; refine ⟨rfl, ?_⟩; cases h with | c0 h => cases h with | p _ _ h => cases h; exact .inr (.inr (.inr ⟨_, rfl⟩))
  · cases he; right; refine ⟨rfl, ?_⟩; cases h with | c0 h => cases h; exact .inr (.inr (.inr ⟨_, rfl⟩))
  · rename_i rows
    split at he
    · cases he
    · rename_i hne
      cases he; right; refine ⟨rfl, ?_⟩
      cases h with | c0 h => cases h with | p _ _ h => cases h with
        | nil => simp at hne
        | sl => exact .inl ⟨_, _, _, rfl⟩
  · split at he
    · cases he
    · rename_i hne
      cases he; right; refine ⟨rfl, ?_⟩
      cases h with | c0 h => cases h with
        | mslN => simp at hne
        | msl => exact .inl ⟨_, _, _, rfl⟩
  · cases he
theorem run_eqB' (d : Nat) {t : TypeId} (hu : P.underlying t = some .bool) (a b : Bool) : (Op.equalIn (d + 1) t (.bool a) (.bool b)).run P w = .ok (a == b) w := by
  simp only [Op.equalIn, Sem.run_bind, run_und hu, Result.andThen_ok, Sem.run_pure]
theorem run_eqB {t : TypeId} (hu : P.underlying t = some .bool) (a b : Bool) : (Op.equal t (.bool a) (.bool b)).run P w = .ok (a == b) w := run_eqB' 9999 hu a b
theorem guard_plain {op : BinOp} {t : TypeId} {x y : Operand} {u v : Value} (h : ∀ us, u ≠ .agg us)
    (h2 : u = .nilIface → v = .nilIface → ((match x with | .const _ => true | _ => false) || (match y with | .const _ => true | _ => false)) = true) :
    (eqGuard op t x y u v).run P w = .ok () w := by
  unfold eqGuard
  cases op <;> first
    | rfl
    | (cases u <;> first
        | rfl
        | exact absurd rfl (h _)
        | (cases v <;> first
            | rfl
            | (have h3 := h2 rfl rfl
               cases x <;> cases y <;> first | rfl | (simp at h3))))
theorem nilK_sound {kd : Nat} {c : AC} {x : Value} {b : Bool} (h : CRel A τ w c x) (he : isNilK kd c = some b) :
    (kd = 0 ∧ ((b = true ∧ x = .slice none 0 0) ∨ (b = false ∧ ∃ a l k, x = .slice (some a) l k))) ∨
    (kd = 1 ∧ ((b = true ∧ x = .nilFunc) ∨ (b = false ∧ ∃ f u v, x = .func f u v))) ∨
    (kd = 2 ∧ ((b = true ∧ x = .nilIface) ∨ (b = false ∧ ∃ t v, x = .iface t v))) := by
  unfold isNilK at he
  split at he
  · cases he; left; refine ⟨rfl, .inl ⟨rfl, ?_⟩⟩; cases h with | c0 h => cases h; rfl
  · rename_i rows
    split at he
    · cases he
    · rename_i hne
      cases he; left; refine ⟨rfl, .inr ⟨rfl, ?_⟩⟩
      cases h with | c0 h => cases h with | p _ _ h => cases h with
        | nil => simp at hne
        | sl => exact ⟨_, _, _, rfl⟩
  · split at he
    · cases he
    · rename_i hne
      cases he; left; refine ⟨rfl, .inr ⟨rfl, ?_⟩⟩
      cases h with | c0 h => cases h with
        | mslN => simp at hne
        | msl => exact ⟨_, _, _, rfl⟩
  · cases he; right; left; refine ⟨rfl, .inl ⟨rfl, ?_⟩⟩; cases h with | c0 h => cases h with | p _ _ h => cases h; rfl
  · cases he; right; left; refine ⟨rfl, .inr ⟨rfl, ?_⟩⟩; cases h with | c0 h => cases h with | p _ _ h => cases h; exact ⟨_, _, _, rfl⟩
  · cases he; right; left; refine ⟨rfl, .inr ⟨rfl, ?_⟩⟩; cases h with | c0 h => cases h | mfn => exact ⟨_, _, _, rfl⟩
  · cases he; right; right; refine ⟨rfl, .inl ⟨rfl, ?_⟩⟩; cases h with | c0 h => cases h with | p _ _ h => cases h; rfl
  · cases he; right; right; refine ⟨rfl, .inr ⟨rfl, ?_⟩⟩; cases h with | c0 h => cases h with | p _ _ h => cases h; exact ⟨_, _, rfl⟩
  · cases he; right; right; refine ⟨rfl, .inr ⟨rfl, ?_⟩⟩; cases h with | c0 h => cases h with | p _ _ h => cases h; exact ⟨_, _, rfl⟩
  · cases he
def kdOf : TypeDesc → Option Nat
  | .slice _ => some 0
  | .func _ _ _ => some 1
  | .interface _ => some 2
  | _ => none
theorem nil_run {t : TypeId} {d : TypeDesc} (hu : P.underlying t = some d) {kd : Nat} (hk : kdOf d = some kd) {c e : AC} {x y : Value} {a' b' : Bool} (h1 : CRel A τ w c x) (h2 : CRel A τ w e y)
    (e1 : isNilK kd c = some a') (e2 : isNilK kd e = some b') (hab : a' = true ∨ b' = true) (n : Nat) :
    (Op.equalIn (n + 1) t x y).run P w = .ok (a' == b') w := by
  have k1 := nilK_sound h1 e1
  have k2 := nilK_sound h2 e2
  clear h1 h2 e1 e2
  cases d <;> simp only [kdOf] at hk <;> cases hk
  · rcases k1 with ⟨_, h⟩ | ⟨h0, _⟩ | ⟨h0, _⟩
    · rcases k2 with ⟨_, h'⟩ | ⟨h0, _⟩ | ⟨h0, _⟩
      · rcases h with ⟨rfl, rfl⟩ | ⟨rfl, u1, u2, u3, rfl⟩ <;> rcases h' with ⟨rfl, rfl⟩ | ⟨rfl, v1, v2, v3, rfl⟩ <;> first | (simp [Op.equalIn, run_und hu]; done) | (simp at hab)
      · cases h0
      · cases h0
    · cases h0
    · cases h0
  · rcases k1 with ⟨h0, _⟩ | ⟨_, h⟩ | ⟨h0, _⟩
    · cases h0
    · rcases k2 with ⟨h0, _⟩ | ⟨_, h'⟩ | ⟨h0, _⟩
      · cases h0
      · rcases h with ⟨rfl, rfl⟩ | ⟨rfl, u1, u2, u3, rfl⟩ <;> rcases h' with ⟨rfl, rfl⟩ | ⟨rfl, v1, v2, v3, rfl⟩ <;> first | (simp [Op.equalIn, run_und hu]; done) | (simp at hab)
      · cases h0
    · cases h0
  · rcases k1 with ⟨h0, _⟩ | ⟨h0, _⟩ | ⟨_, h⟩
    · cases h0
    · cases h0
    · rcases k2 with ⟨h0, _⟩ | ⟨h0, _⟩ | ⟨_, h'⟩
      · cases h0
      · cases h0
      · rcases h with ⟨rfl, rfl⟩ | ⟨rfl, u1, u2, rfl⟩ <;> rcases h' with ⟨rfl, rfl⟩ | ⟨rfl, v1, v2, rfl⟩ <;> first | (simp [Op.equalIn, run_und hu]; done) | (simp at hab)
end sound
end Go.AM

