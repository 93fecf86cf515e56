/- MADE BY sync2.py: AM0, AM1, one behind the other. No condition but what they say. -/
import GoSem.Dispatch
import Derived.Lib.RuneBytes
section
/- A small machine over plain values: its text, and how it runs. No condition. -/
namespace Go.Proofs.Ytomnggbideepeaa.AM
set_option linter.unusedSimpArgs false
set_option linter.unusedVariables false
open Go

/-- Plain values: what memory that is never written again reads as. -/
inductive PV where
  | sc (v : Value)
  | st (l : List PV)
  | tu (l : List PV)
  | sl (k : Nat) (l : List (List PV))
  | pt (l : List PV)
  | fn (f : FuncId) (l : List PV)
  | ifc (t : TypeId) (x : PV)
  | ow (e k : Nat) (l : List (List PV))

/-- What a slot holds: a plain value, a slice with no spare room, a part of an object that is still written, a pointer into one. -/
inductive SV where
  | p (x : PV)
  | xs (k : Nat) (l : List (List PV))
  | ms (d off len : Nat)
  | mp (d i j : Nat)

/-- Objects that are still written. -/
inductive Ob where
  | row (e k : Nat) (fz : Bool) (l : List (List PV))
  | it (s : ByteArray) (pos : Nat)
  | dp (e k : Nat) (l : List (List PV))
  | dead

def Ob.isDp : Ob → Bool
  | .dp .. => true
  | _ => false

structure St where
  t : List (Nat × SV)
  h : List (Nat × Ob)

def get {α : Type} : List (Nat × α) → Nat → Option α
  | [], _ => none
  | (e, u) :: l, d => if e = d then some u else get l d
def put {α : Type} : List (Nat × α) → Nat → α → List (Nat × α)
  | [], d, v => [(d, v)]
  | (e, u) :: l, d, v => if e = d then (d, v) :: l else if d < e then (d, v) :: (e, u) :: l else (e, u) :: put l d v

inductive X where
  | t (n : Nat)
  | c (v : SV)
  | f (n : FuncId)

abbrev t (n : Nat) : X := .t n
abbrev I (n : Int) : X := .c (.p (.sc (.int .i64 n)))
abbrev IK (k : IntKind) (n : Int) : X := .c (.p (.sc (.int k n)))
abbrev B (b : Bool) : X := .c (.p (.sc (.bool b)))
abbrev S (l : Array UInt8) : X := .c (.p (.sc (.string ⟨l⟩)))
abbrev pi (n : Int) : PV := .sc (.int .i64 n)
abbrev pI (k : IntKind) (n : Int) : PV := .sc (.int k n)
abbrev pb (b : Bool) : PV := .sc (.bool b)
abbrev pS (l : Array UInt8) : PV := .sc (.string ⟨l⟩)

/-- Scalar operations. -/
inductive SOp where
  | bin (op : BinOp)
  | un (op : UnOp)
  | cv (k : IntKind)
  | i2s
  | s2s
  | idx
  | beq (ne : Bool)
  | peq (ne : Bool)

inductive AOp where
  | mv (x : X)
  | nl (e k : Nat)
  | pick (c a b : X)
  | box (e k : Nat) (x : X)
  | alloc (e k : Nat) (rows : List (List PV))
  | boxp (e k : Nat) (x : X)
  | alcp (e k : Nat) (c : List PV)
  | bld (z : List PV) (ps : List (Nat × Nat × X))
  | bsl (e k : Nat) (z : List (List PV)) (ps : List (Nat × X))
  | ld1 (x : X)
  | iap (k : Nat) (x i : X)
  | ldp1 (x : X)
  | ldpk (k : Nat) (x : X)
  | mvp (x : X)
  | ldk (k : Nat) (x : X)
  | sto (k : Nat) (a x : X)
  | s1 (o : SOp) (x : X)
  | s2 (o : SOp) (x y : X)
  | eqst (ne : Bool) (ks : List Nat) (x y : X)
  | nck (x : X)
  | apps (e by_ : Nat) (x y : X)
  | mki (t : TypeId) (x : X)
  | inv (t : TypeId) (f : FuncId) (m : String) (x : X) (l : List X)
  | fld1 (x : X) (off : Nat)
  | fldk (x : X) (off k : Nat)
  | fa (x : X) (off : Nat)
  | ia (k : Nat) (x i : X)
  | aa (k n : Nat) (x i : X)
  | mkf (f : FuncId) (cs : List X)
  | mks (e k by_ : Nat) (z : List PV) (l c : X)
  | slc (k : Nat) (x : X) (lo hi mx : Option X)
  | sls (x : X) (lo hi : Option X)
  | len (x : X)
  | lens (x : X)
  | app (e k by_ : Nat) (x y : X)
  | cpy (k : Nat) (x y : X)
  | mm (mx : Bool) (l : List X)
  | rng (x : X)
  | nxt (x : X)
  | ext (x : X) (i : Nat)
  | cl (f : FuncId) (l : List X)
  | cv (x : X) (l : List X)
  | b2s (x : X)
  | cpyd (k : Nat) (x y : X)
  | cpyo (k : Nat) (x y : X)
  | iad (k : Nat) (x i : X)
  | fad (x : X) (off : Nat)
  | ld1d (x : X)
  | ld1o (x : X)
  | sto1o (a x : X)
  | stod (a x : X)
  | lend (x : X)
  | mvs (x y : X)
  | cld (f : FuncId) (l : List X)
  | ixa (k m : Nat) (x i : X)
  | bldp (z : List PV) (ps : List (Nat × Nat × X))
  | bslp (e k : Nat) (z : List (List PV)) (ps : List (Nat × X))
  | sbn (T e : TypeId)
  | sbw (f : FuncId) (x y : X)
  | sbs (f : FuncId) (x : X)

structure AOper where
  d : Option Nat
  o : AOp
  g : Option (Nat × Bool) := none

inductive ACode where
  | skip
  | reg (ops : List AOper) (keep : List Nat)
  | regf (ops : List AOper) (keep fz : List Nat)
  | seq (a b : ACode)
  | ite (c : X) (a b : ACode)
  | blk (id : Nat) (a : ACode)
  | loop (keep : List Nat) (a : ACode)
  | ex (id : Nat)
  | ret

inductive ARes where
  | t (n : Nat)
  | c1 (n : Nat)
  | ck (n k : Nat)
  | td (n : Nat)

structure AFunc where
  np : Nat
  n : Nat
  rs : List ARes
  body : ACode

/-- What a call gives: a plain value, or a slice that the caller alone has. -/
inductive Ret where
  | val (x : PV)
  | own (e k : Nat) (l : List (List PV))
  | deep (e k : Nat) (l : List (List PV))
  | sb (k : Nat) (T e : TypeId)

inductive Out where
  | nor
  | ex (id : Nat)
  | ret

abbrev Call := FuncId → List PV → Option Ret

def X.ev (s : St) : X → Option SV
  | .t n => get s.t n
  | .c v => match v with
    | .p x => some (.p x)
    | .xs k l => some (.xs k l)
    | _ => none
  | .f n => some (.p (.fn n []))

/-- The plain value that a slot's value is from now on, and the objects that are not written from now on. -/
def frz (h : List (Nat × Ob)) : SV → Option (PV × List (Nat × Ob))
  | .p x => some (x, [])
  | .xs k l => some (.sl k l, [])
  | .ms d off len => match get h d with
    | some (.row e k _ l) => if off + len ≤ l.length then some (.sl k ((l.drop off).take len), [(d, .row e k true l)]) else none
    | _ => none
  | .mp d i j => match get h d with
    | some (.row e k _ l) => match l[i]? with
      | some c => if j < k then some (.pt (c.drop j), [(d, .row e k true l)]) else none
      | none => none
    | _ => none

def frzs (h : List (Nat × Ob)) : List SV → Option (List PV × List (Nat × Ob))
  | [] => some ([], [])
  | v :: vs => match frz h v with
    | some (x, a) => match frzs h vs with
      | some (xs, b) => some (x :: xs, a ++ b)
      | none => none
    | none => none

def evs (s : St) : List X → Option (List SV)
  | [] => some []
  | x :: xs => match x.ev s with
    | some v => match evs s xs with
      | some vs => some (v :: vs)
      | none => none
    | none => none

/-- Plain values alone. -/
def evp (s : St) : List X → Option (List PV)
  | [] => some []
  | x :: xs => match x.ev s with
    | some (.p y) => match evp s xs with
      | some ys => some (y :: ys)
      | none => none
    | _ => none

def putAll (h : List (Nat × Ob)) : List (Nat × Ob) → List (Nat × Ob)
  | [] => h
  | (d, o) :: l => putAll (put h d o) l

/-- The number of a new object: the slot's, or that and 100000. -/
def newId (h : List (Nat × Ob)) (d : Nat) : Option Nat :=
  if d < 800000 then
    match get h d with
    | none => some d
    | some _ => match get h (d + 100000) with
      | none => some (d + 100000)
      | some _ => none
  else none

/-- The cells that a value takes in memory. -/
def PV.cells : PV → Option (List PV)
  | .st l => some l
  | .tu _ => none
  | .ow _ _ _ => none
  | .sc (.agg _) => none
  | .sc (.tuple _) => none
  | x => some [x]

def sInt : SV → Option (IntKind × Int)
  | .p (.sc (.int k n)) => some (k, n)
  | _ => none

def binS (op : BinOp) : PV → PV → Option PV
  | .sc (.int k a), .sc (.int k' b) =>
    match op with
    | .add => if k = k' then some (.sc (.int k (k.wrap (a + b)))) else none
    | .sub => if k = k' then some (.sc (.int k (k.wrap (a - b)))) else none
    | .mul => if k = k' then some (.sc (.int k (k.wrap (a * b)))) else none
    | .quo => if k = k' then (if b = 0 then none else some (.sc (.int k (k.wrap (a.tdiv b))))) else none
    | .rem => if k = k' then (if b = 0 then none else some (.sc (.int k (a.tmod b)))) else none
    | .and => if k = k' then some (.sc (.int k (k.wrap ((BitVec.ofInt k.bits a &&& BitVec.ofInt k.bits b).toNat)))) else none
    | .or => if k = k' then some (.sc (.int k (k.wrap ((BitVec.ofInt k.bits a ||| BitVec.ofInt k.bits b).toNat)))) else none
    | .xor => if k = k' then some (.sc (.int k (k.wrap ((BitVec.ofInt k.bits a ^^^ BitVec.ofInt k.bits b).toNat)))) else none
    | .andNot => if k = k' then some (.sc (.int k (k.wrap ((BitVec.ofInt k.bits a &&& ~~~BitVec.ofInt k.bits b).toNat)))) else none
    | .shl => if b < 0 then none else some (.sc (.int k (k.wrap (a * 2 ^ (min b.toNat k.bits)))))
    | .shr => if b < 0 then none else some (.sc (.int k (a.fdiv (2 ^ (min b.toNat k.bits)))))
    | .eql => if k = k' then some (.sc (.bool (a == b))) else none
    | .neq => if k = k' then some (.sc (.bool (a != b))) else none
    | .lss => if k = k' then some (.sc (.bool (decide (a < b)))) else none
    | .leq => if k = k' then some (.sc (.bool (decide (a ≤ b)))) else none
    | .gtr => if k = k' then some (.sc (.bool (decide (a > b)))) else none
    | .geq => if k = k' then some (.sc (.bool (decide (a ≥ b)))) else none
  | .sc (.string a), .sc (.string b) =>
    match op with
    | .add => if ((a.size + b.size : Nat) : Int) ≤ 9223372036854775807 then some (.sc (.string (a ++ b))) else none
    | .eql => some (.sc (.bool (a.toList == b.toList)))
    | .neq => some (.sc (.bool (!(a.toList == b.toList))))
    | _ => none
  | _, _ => none

/-- Of two rows of whole numbers (0), bools (1), strings (2): are they one? -/
def eqCells : List Nat → List PV → List PV → Option Bool
  | [], [], [] => some true
  | 0 :: ks, .sc (.int k a) :: l, .sc (.int k' b) :: m => if k = k' then (match eqCells ks l m with | some r => some ((a == b) && r) | none => none) else none
  | 1 :: ks, .sc (.bool a) :: l, .sc (.bool b) :: m => match eqCells ks l m with | some r => some ((a == b) && r) | none => none
  | 2 :: ks, .sc (.string a) :: l, .sc (.string b) :: m => match eqCells ks l m with | some r => some ((a == b) && r) | none => none
  | _, _, _ => none

def bt? (s : ByteArray) (i : Int) : Option Int := if 0 ≤ i then (s[i.toNat]?).map fun b => (b.toNat : Int) else none

def unS (op : UnOp) : PV → Option PV
  | .sc (.bool b) => match op with | .not => some (.sc (.bool (!b))) | _ => none
  | .sc (.int k n) => match op with
    | .neg => some (.sc (.int k (k.wrap (0 - n))))
    | _ => none
  | _ => none

def sop1 (o : SOp) (x : PV) : Option PV :=
  match o with
  | .un op => unS op x
  | .cv k => match x with | .sc (.int _ n) => some (.sc (.int k (k.wrap n))) | _ => none
  | .s2s => match x with | .sc (.string s) => some (.sc (.string s)) | _ => none
  | .i2s => match x with | .sc (.int _ n) => some (.sc (.string (Utf8.encode n))) | _ => none
  | _ => none

def sop2 (o : SOp) (x y : PV) : Option PV :=
  match o with
  | .bin op => binS op x y
  | .idx => match x, y with
    | .sc (.string s), .sc (.int _ i) => (bt? s i).map fun b => .sc (.int .u8 b)
    | _, _ => none
  | .beq ne => match x, y with
    | .sc (.bool a), .sc (.bool b) => some (.sc (.bool (if ne then !(a == b) else a == b)))
    | _, _ => none
  | .peq ne => match x, y with
    | .pt _, .sc (.pointer none) => some (.sc (.bool ne))
    | .sc (.pointer none), .sc (.pointer none) => some (.sc (.bool (!ne)))
    | _, _ => none
  | _ => none

/-- An index, a bound: 0 ≤ i, as a natural number. -/
def natOf (v : SV) : Option Nat :=
  match v with
  | .p (.sc (.int _ i)) => if 0 ≤ i then some i.toNat else none
  | _ => none

def natOr (s : St) (d : Nat) : Option X → Option Nat
  | none => some d
  | some x => match x.ev s with
    | some v => natOf v
    | none => none

/-- Parts of a struct put into its zero value's cells: (offset, size, what). -/
def fillP (z : List PV) : List (Nat × Nat × PV) → Option (List PV)
  | [] => some z
  | (off, n, x) :: ps => match x.cells with
    | some c => if c.length = n ∧ off + n ≤ z.length then fillP (z.take off ++ c ++ z.drop (off + n)) ps else none
    | none => none

def fillR (k : Nat) (z : List (List PV)) : List (Nat × PV) → Option (List (List PV))
  | [] => some z
  | (i, x) :: ps => match x.cells with
    | some c => if c.length = k ∧ i < z.length then fillR k (z.set i c) ps else none
    | none => none

def mnmx (mx : Bool) : PV → PV → Option PV
  | .sc (.int k x), .sc (.int _ y) => some (.sc (.int k (if mx then (if y > x then y else x) else (if y < x then y else x))))
  | _, _ => none
def mnmxs (mx : Bool) : PV → List PV → Option PV
  | x, [] => some x
  | x, y :: l => match mnmx mx x y with | some z => mnmxs mx z l | none => none

/-- The elements of a slice, and of what elements. -/
def elems (h : List (Nat × Ob)) : SV → Option (Nat × List (List PV))
  | .p (.sl k l) => some (k, l)
  | .xs k l => some (k, l)
  | .ms d off len => match get h d with
    | some (.row _ k _ l) => if off + len ≤ l.length then some (k, (l.drop off).take len) else none
    | _ => none
  | _ => none

def svLen (h : List (Nat × Ob)) (v : SV) : Option Nat :=
  match v with
  | .p (.sl _ l) => some l.length
  | .xs _ l => some l.length
  | .ms d _ n => match get h d with
    | some (.row _ _ _ _) => some n
    | _ => none
  | _ => none

structure Eff where
  v : SV
  hs : List (Nat × Ob)

def sv (x : PV) : Option Eff := some ⟨.p x, []⟩
def uns (x : Option PV) : Option Eff := match x with | some x => some ⟨.p x, []⟩ | none => none
def undefS : SV := .p (.sc (.tuple #[]))

/-- A cell whose slice has an owner no more than the others. -/
def PV.set : PV → PV
  | .ow _ k l => .sl k l
  | x => x
def PV.noHole : PV → Bool
  | .ow _ 0 _ => false
  | _ => true
def PV.noOw : PV → Bool
  | .ow _ _ _ => false
  | _ => true
def okSet (l : List (List PV)) : Bool := l.all fun c => c.all PV.noHole
def plainL (l : List (List PV)) : Bool := l.all fun c => c.all PV.noOw
def setL (l : List (List PV)) : List (List PV) := l.map fun c => c.map PV.set
def putC (l : List (List PV)) (i j : Nat) (x : PV) : List (List PV) := match l[i]? with | some c => l.set i (c.set j x) | none => l

def ret1 (h : List (Nat × Ob)) (fr : List (Nat × Ob)) (d : Nat) : Ret → Option Eff
  | .val x => some ⟨.p x, fr⟩
  | .own e k l => match newId h d with
    | some id => some ⟨.ms id 0 l.length, fr ++ [(id, .row e k false l)]⟩
    | none => none
  | .deep e k l => if okSet l = true then
      match newId h d with
      | some id => some ⟨.ms id 0 l.length, fr ++ [(id, .row e k false (setL l))]⟩
      | none => none
    else none
  | .sb _ _ _ => none
/-- What a call gives that is kept deep. -/
def ret1d (h : List (Nat × Ob)) (fr : List (Nat × Ob)) (d : Nat) : Ret → Option Eff
  | .deep e k l => match newId h d with
    | some id => some ⟨.ms id 0 l.length, fr ++ [(id, .dp e k l)]⟩
    | none => none
  | _ => none

def maxBytes : Nat := 140737488355328

/-- A text's bytes, as cells. -/
def bRows (l : List UInt8) : List (List PV) := l.map fun b => [.sc (.int .u8 b.toNat)]
/-- What a builder's function writes. -/
def sbAdd (kd : Nat) : PV → Option (List UInt8)
  | .sc (.string t) => if kd = 1 then some t.data.toList else none
  | .sc (.int .i32 r) => if kd = 3 ∧ -2147483648 ≤ r ∧ r ≤ 2147483647 then some (Lib.encodeRune r) else none
  | _ => none
/-- A strings.Builder's cells: its own address, or none; its bytes, which it alone has. -/
def sbRow (e : TypeId) (l : List (List PV)) : List (List PV) := [[.ow 1 0 [], .ow e 1 l]]
def unRow : List (List PV) → Option (TypeId × List (List PV))
  | [[.ow a b [], .ow e c l]] => if a = 1 ∧ b = 0 ∧ c = 1 then some (e, l) else none
  | _ => none

def eff.bytesL : List (List PV) → Option (List UInt8)
  | [] => some []
  | [.sc (.int .u8 n)] :: l => (eff.bytesL l).map (UInt8.ofNat n.toNat :: ·)
  | _ => none
def eff.bytesOf (l : List (List PV)) : Option ByteArray := (eff.bytesL l).map fun b => ⟨b.toArray⟩

/-- A builder's bytes. -/
def sbBytes : List (List PV) → Option (List UInt8)
  | [] => some []
  | [.sc (.int .u8 n)] :: l => if 0 ≤ n ∧ n < 256 then (sbBytes l).map (UInt8.ofNat n.toNat :: ·) else none
  | _ => none

def sbwE (s : St) (x y : X) : Ret → Option Eff
  | .sb kd T e => match x.ev s, y.ev s with
    | some (.mp d' i j), some (.p y) => match sbAdd kd y with
      | some bs => match get s.h d' with
        | some (.dp T' k r) => match unRow r with
          | some (e', l) => if T' = T ∧ e' = e ∧ k = 2 ∧ i = 0 ∧ j = 0 ∧ l.length + bs.length + 4 ≤ maxBytes then
              some ⟨.p (.tu [.sc (.int .i64 bs.length), .sc .nilIface]), [(d', .dp T 2 (sbRow e (l ++ bRows bs)))]⟩
            else none
          | none => none
        | _ => none
      | none => none
    | _, _ => none
  | _ => none
def sbsE (s : St) (x : X) : Ret → Option Eff
  | .sb kd T e => match x.ev s with
    | some (.mp d' i j) => match get s.h d' with
      | some (.dp T' k r) => match unRow r with
        | some (e', l) => if kd = 2 ∧ T' = T ∧ e' = e ∧ k = 2 ∧ i = 0 ∧ j = 0 then
            match sbBytes l with
            | some b => some ⟨.p (.sc (.string ⟨b.toArray⟩)), [(d', .dead)]⟩
            | none => none
          else none
        | none => none
      | _ => none
    | _ => none
  | _ => none

def cellAt (l : List (List PV)) (i j : Nat) : Option PV := match l[i]? with | some c => c[j]? | none => none

def eff (call : Call) (s : St) (d : Nat) : AOp → Option Eff
  | .mv x => match x.ev s with | some v => some ⟨v, []⟩ | none => none
  | .nl e k => match newId s.h d with
    | some id => some ⟨.ms id 0 0, [(id, .row e k false [])]⟩
    | none => none
  | .pick c a b => match c.ev s, a.ev s, b.ev s with
    | some (.p (.sc (.bool c))), some a, some b => some ⟨if c then a else b, []⟩
    | _, _, _ => none
  | .box e k x => match x.ev s with
    | some v => match frz s.h v with
      | some (y, fr) => match y.cells with
        | some c => if c.length = k then
            match newId s.h d with | some id => some ⟨.mp id 0 0, fr ++ [(id, .row e k false [c])]⟩ | none => none
          else none
        | none => none
      | none => none
    | none => none
  | .alloc e k rows => match newId s.h d with | some id => some ⟨.mp id 0 0, [(id, .row e k false rows)]⟩ | none => none
  | .boxp e k x => match x.ev s with
    | some v => match frz s.h v with
      | some (y, fr) => match y.cells with
        | some c => if c.length = k then
            match newId s.h d with | some id => some ⟨.p (.pt c), fr ++ [(id, .row e k true [c])]⟩ | none => none
          else none
        | none => none
      | none => none
    | none => none
  | .alcp e k c => match newId s.h d with | some id => some ⟨.p (.pt c), [(id, .row e k true [c])]⟩ | none => none
  | .bld z ps => match evs s (ps.map fun q => q.2.2) with
    | some vs => match frzs s.h vs with
      | some (ys, fr) => match fillP z ((ps.zip ys).map fun q => (q.1.1, q.1.2.1, q.2)) with
        | some cs => some ⟨.p (.st cs), fr⟩
        | none => none
      | none => none
    | none => none
  | .bsl e k z ps => match evs s (ps.map fun q => q.2) with
    | some vs => match frzs s.h vs with
      | some (ys, fr) => match fillR k z ((ps.zip ys).map fun q => (q.1.1, q.2)) with
        | some rs => match newId s.h d with
          | some id => some ⟨.ms id 0 rs.length, fr ++ [(id, .row e k false rs)]⟩
          | none => none
        | none => none
      | none => none
    | none => none
  | .iap k x i => match x.ev s, i.ev s with
    | some (.p (.sl k' l)), some w => match natOf w with
      | some n => if k' = k then (match l[n]? with | some c => some ⟨.p (.pt c), []⟩ | none => none) else none
      | none => none
    | _, _ => none
  | .ldp1 x => match x.ev s with
    | some (.p (.pt (c :: _))) => some ⟨.p c, []⟩
    | _ => none
  | .ldpk k x => match x.ev s with
    | some (.p (.pt cs)) => if k ≤ cs.length then some ⟨.p (.st (cs.take k)), []⟩ else none
    | _ => none
  | .mvp x => match x.ev s with
    | some v => match frz s.h v with | some (y, fr) => some ⟨.p y, fr⟩ | none => none
    | none => none
  | .ld1 x => match x.ev s with
    | some (.p (.pt (c :: _))) => some ⟨.p c, []⟩
    | some (.mp d' i j) => match get s.h d' with
      | some (.row _ _ _ l) => match cellAt l i j with | some c => some ⟨.p c, []⟩ | none => none
      | _ => none
    | _ => none
  | .ldk k x => match x.ev s with
    | some (.p (.pt cs)) => if k ≤ cs.length then some ⟨.p (.st (cs.take k)), []⟩ else none
    | some (.mp d' i j) => match get s.h d' with
      | some (.row _ _ _ l) => match l[i]? with
        | some c => if j + k ≤ c.length then some ⟨.p (.st ((c.drop j).take k)), []⟩ else none
        | none => none
      | _ => none
    | _ => none
  | .sto k a x => match a.ev s, x.ev s with
    | some (.mp d' i j), some v => match frz s.h v with
      | some (y, fr) => match y.cells with
        | some yc => if yc.length = k then
            match get s.h d' with
            | some (.row e k' false l) => match l[i]? with
              | some c => if j + k ≤ c.length ∧ (fr.all fun q => q.1 != d') then some ⟨undefS, fr ++ [(d', .row e k' false (l.set i (c.take j ++ yc ++ c.drop (j + k))))]⟩ else none
              | none => none
            | _ => none
          else none
        | none => none
      | none => none
    | _, _ => none
  | .s1 o x => match x.ev s with
    | some (.p x) => uns (sop1 o x)
    | _ => none
  | .s2 o x y => match x.ev s, y.ev s with
    | some (.p x), some (.p y) => uns (sop2 o x y)
    | some (.mp d' _ _), some (.p (.sc (.pointer none))) => match o with
      | .peq ne => match get s.h d' with
        | some (.row _ _ _ _) => some ⟨.p (.sc (.bool ne)), []⟩
        | _ => none
      | _ => none
    | _, _ => none
  | .eqst ne ks x y => match x.ev s, y.ev s with
    | some (.p (.st a)), some (.p (.st b)) => match eqCells ks a b with | some r => some ⟨.p (.sc (.bool (if ne then !r else r))), []⟩ | none => none
    | _, _ => none
  | .nck x => match x.ev s with
    | some (.p (.pt l)) => some ⟨.p (.pt l), []⟩
    | some (.mp d i j) => match get s.h d with
      | some (.row _ _ _ _) => some ⟨.mp d i j, []⟩
      | _ => none
    | _ => none
  | .apps e by_ x y => match x.ev s, y.ev s with
    | some (.ms d' off len), some (.p (.sc (.string t))) => match get s.h d' with
      | some (.row e' k' false l) =>
        if e' = e ∧ k' = 1 ∧ off = 0 ∧ len = l.length ∧ (l.length + t.size) * by_ ≤ maxBytes ∧ l.length + t.size ≤ 9223372036854775807 then
          match newId s.h d with
          | some id => some ⟨.ms id 0 (l.length + t.size), [(d', .dead), (id, .row e 1 false (l ++ t.data.toList.map fun b => [.sc (.int .u8 b.toNat)]))]⟩
          | none => none
        else none
      | _ => none
    | _, _ => none
  | .mki ty x => match x.ev s with
    | some v => match frz s.h v with | some (y, fr) => some ⟨.p (.ifc ty y), fr⟩ | none => none
    | none => none
  | .inv ty f _ x l => match x.ev s, evs s l with
    | some (.p (.ifc ty' y)), some vs => if ty' = ty then
        match frzs s.h vs with
        | some (ys, fr) => match call f (y :: ys) with
          | some r => ret1 s.h fr d r
          | none => none
        | none => none
      else none
    | _, _ => none
  | .fld1 x off => match x.ev s with
    | some (.p (.st l)) => match l[off]? with | some c => some ⟨.p c, []⟩ | none => none
    | _ => none
  | .fldk x off k => match x.ev s with
    | some (.p (.st l)) => if off + k ≤ l.length then some ⟨.p (.st ((l.drop off).take k)), []⟩ else none
    | _ => none
  | .fa x off => match x.ev s with
    | some (.p (.pt cs)) => if off < cs.length then some ⟨.p (.pt (cs.drop off)), []⟩ else none
    | some (.mp d' i j) => match get s.h d' with
      | some (.row _ _ _ _) => some ⟨.mp d' i (j + off), []⟩
      | _ => none
    | _ => none
  | .ia k x i => match x.ev s, i.ev s with
    | some v, some w => match natOf w with
      | some n => match v with
        | .p (.sl k' l) => if k' = k then (match l[n]? with | some c => some ⟨.p (.pt c), []⟩ | none => none) else none
        | .xs k' l => if k' = k then (match l[n]? with | some c => some ⟨.p (.pt c), []⟩ | none => none) else none
        | .ms d' off len => match get s.h d' with
          | some (.row _ k' _ _) => if k' = k ∧ n < len then some ⟨.mp d' (off + n) 0, []⟩ else none
          | _ => none
        | _ => none
      | none => none
    | _, _ => none
  | .aa k m x i => match x.ev s, i.ev s with
    | some (.mp d' i' j), some w => match natOf w with
      | some n => match get s.h d' with
        | some (.row _ k' _ _) => if k' = k ∧ n < m ∧ i' = 0 ∧ j = 0 then some ⟨.mp d' n 0, []⟩ else none
        | _ => none
      | none => none
    | _, _ => none
  | .mkf f cs => match evs s cs with
    | some vs => match frzs s.h vs with | some (ys, fr) => some ⟨.p (.fn f ys), fr⟩ | none => none
    | none => none
  | .mks e k by_ z l c => match l.ev s, c.ev s with
    | some lv, some cv => match natOf lv, natOf cv with
      | some n, some m => if n ≤ m ∧ m * by_ ≤ maxBytes ∧ m ≤ 9223372036854775807 then
          match newId s.h d with | some id => some ⟨.ms id 0 n, [(id, .row e k false (List.replicate n z))]⟩ | none => none
        else none
      | _, _ => none
    | _, _ => none
  | .slc k x lo hi mx => match x.ev s with
    | some v => match svLen s.h v with
      | some n => match natOr s 0 lo, natOr s n hi with
        | some a, some b => if a ≤ b ∧ b ≤ n then
            match mx with
            | none => match v with
              | .p (.sl k' l) => if k' = k then some ⟨.p (.sl k ((l.drop a).take (b - a))), []⟩ else none
              | .xs k' l => if k' = k then some ⟨.p (.sl k ((l.drop a).take (b - a))), []⟩ else none
              | .ms d' off _ => match get s.h d' with
                | some (.row _ k' _ _) => if k' = k then some ⟨.ms d' (off + a) (b - a), []⟩ else none
                | _ => none
              | _ => none
            | some m => match natOr s 0 (some m) with
              | some c => if c = b then
                  match frz s.h v with
                  | some (.sl k' l, fr) => if k' = k then some ⟨.xs k ((l.drop a).take (b - a)), fr⟩ else none
                  | _ => none
                else none
              | none => none
          else none
        | _, _ => none
      | none => none
    | none => none
  | .sls x lo hi => match x.ev s with
    | some (.p (.sc (.string t))) => match natOr s 0 lo, natOr s t.size hi with
      | some a, some b => if a ≤ b ∧ b ≤ t.size then some ⟨.p (.sc (.string (t.extract a b))), []⟩ else none
      | _, _ => none
    | _ => none
  | .len x => match x.ev s with
    | some v => match svLen s.h v with | some n => some ⟨.p (.sc (.int .i64 n)), []⟩ | none => none
    | none => none
  | .lens x => match x.ev s with
    | some (.p (.sc (.string t))) => some ⟨.p (.sc (.int .i64 t.size)), []⟩
    | _ => none
  | .app e k by_ x y => match x.ev s, y.ev s with
    | some v, some u => match elems s.h u with
      | some (k2, ys) => if k2 = k then
          match v with
          | .ms d' off len => match get s.h d' with
            | some (.row e' k' false l) =>
              if e' = e ∧ k' = k ∧ off = 0 ∧ len = l.length ∧ (l.length + ys.length) * by_ ≤ maxBytes ∧ l.length + ys.length ≤ 9223372036854775807 then
                match newId s.h d with
                | some id => some ⟨.ms id 0 (l.length + ys.length), [(d', .dead), (id, .row e k false (l ++ ys))]⟩
                | none => none
              else none
            | _ => none
          | .xs k' l =>
            if k' = k ∧ (l.length + ys.length) * by_ ≤ maxBytes ∧ l.length + ys.length ≤ 9223372036854775807 then
              if ys.length = 0 then some ⟨.xs k l, []⟩
              else match newId s.h d with
                | some id => some ⟨.ms id 0 (l.length + ys.length), [(id, .row e k false (l ++ ys))]⟩
                | none => none
            else none
          | _ => none
        else none
      | none => none
    | _, _ => none
  | .cpy k x y => match x.ev s, y.ev s with
    | some (.ms d' off len), some u => match elems s.h u with
      | some (k2, ys) => match get s.h d' with
        | some (.row e k' false l) => if k2 = k ∧ k' = k ∧ off + len ≤ l.length then
            some ⟨.p (.sc (.int .i64 (min ys.length len : Nat))), [(d', .row e k' false (l.take off ++ ys.take len ++ l.drop (off + min ys.length len)))]⟩
          else none
        | _ => none
      | none => none
    | _, _ => none
  | .mm mx l => match evs s l with
    | some vs => match frzs s.h vs with
      | some (y :: ys, []) => uns (mnmxs mx y ys)
      | _ => none
    | none => none
  | .rng x => match x.ev s with
    | some (.p (.sc (.string t))) => match newId s.h d with | some id => some ⟨.mp id 0 0, [(id, .it t 0)]⟩ | none => none
    | _ => none
  | .nxt x => match x.ev s with
    | some (.mp d' _ _) => match get s.h d' with
      | some (.it t pos) =>
        if pos < t.size then
          some ⟨.p (.tu [.sc (.bool true), .sc (.int .i64 pos), .sc (.int .i32 (Utf8.decode t pos).1)]), [(d', .it t (pos + (Utf8.decode t pos).2))]⟩
        else some ⟨.p (.tu [.sc (.bool false)]), []⟩
      | _ => none
    | _ => none
  | .ext x i => match x.ev s with
    | some (.p (.tu l)) => match l[i]? with | some c => some ⟨.p c, []⟩ | none => none
    | _ => none
  | .cl f l => match evs s l with
    | some vs => match frzs s.h vs with
      | some (ys, fr) => match call f ys with
        | some r => ret1 s.h fr d r
        | none => none
      | none => none
    | none => none
  | .cv x l => match x.ev s, evs s l with
    | some (.p (.fn f cs)), some vs => match frzs s.h vs with
      | some (ys, fr) => match call f (ys ++ cs) with
        | some r => ret1 s.h fr d r
        | none => none
      | none => none
    | _, _ => none
  | .cpyd k x y => match x.ev s, y.ev s with
    | some (.ms d' off len), some u => match elems s.h u with
      | some (k2, ys) => match get s.h d' with
        | some (.row e k' false l) => if k2 = k ∧ k' = k ∧ off + len ≤ l.length ∧ plainL (l.take off ++ ys.take len ++ l.drop (off + min ys.length len)) = true then
            some ⟨.p (.sc (.int .i64 (min ys.length len : Nat))), [(d', .dp e k' (l.take off ++ ys.take len ++ l.drop (off + min ys.length len)))]⟩
          else none
        | _ => none
      | none => none
    | _, _ => none
  | .cpyo k x y => match x.ev s, y.ev s with
    | some (.ms d1 off1 len1), some (.ms d2 off2 len2) => match get s.h d1, get s.h d2 with
      | some (.row e k1 false l1), some (.dp e2 k2 l2) =>
        if d1 ≠ d2 ∧ e2 = e ∧ k1 = k ∧ k2 = k ∧ off1 = 0 ∧ off2 = 0 ∧ len1 = l1.length ∧ len2 = l2.length ∧ l1.length = l2.length ∧ okSet l2 = true then
          some ⟨.p (.sc (.int .i64 (l1.length : Nat))), [(d2, .dead), (d1, .dp e k l2)]⟩
        else none
      | _, _ => none
    | _, _ => none
  | .iad k x i => match x.ev s, i.ev s with
    | some (.ms d' off len), some w => match natOf w with
      | some n => match get s.h d' with
        | some (.dp _ k' _) => if k' = k ∧ n < len then some ⟨.mp d' (off + n) 0, []⟩ else none
        | _ => none
      | none => none
    | _, _ => none
  | .fad x off => match x.ev s with
    | some (.mp d' i j) => match get s.h d' with
      | some (.dp _ _ _) => some ⟨.mp d' i (j + off), []⟩
      | _ => none
    | _ => none
  | .ld1d x => match x.ev s with
    | some (.mp d' i j) => match get s.h d' with
      | some (.dp _ _ l) => match cellAt l i j with | some c => if c.noOw = true then some ⟨.p c, []⟩ else none | none => none
      | _ => none
    | _ => none
  | .ld1o x => match x.ev s with
    | some (.mp d' i j) => match get s.h d' with
      | some (.dp e k l) => match cellAt l i j with
        | some (.ow e' k' l') => if 0 < k' then
            match newId s.h d with
            | some id => some ⟨.ms id 0 l'.length, [(d', .dp e k (putC l i j (.ow 0 0 []))), (id, .row e' k' false l')]⟩
            | none => none
          else none
        | _ => none
      | _ => none
    | _ => none
  | .sto1o a x => match a.ev s, x.ev s with
    | some (.mp d1 i j), some (.ms d2 off len) => match get s.h d1, get s.h d2 with
      | some (.dp e k l), some (.row e' k' false l') =>
        if off = 0 ∧ len = l'.length ∧ i < l.length ∧ j < k then
          some ⟨undefS, [(d2, .dead), (d1, .dp e k (putC l i j (.ow e' k' l')))]⟩
        else none
      | _, _ => none
    | _, _ => none
  | .stod a x => match a.ev s, x.ev s with
    | some (.mp d1 i j), some (.p y) => match get s.h d1, y.cells with
      | some (.dp e k l), some [c] => if i < l.length ∧ j < k ∧ c.noOw = true then some ⟨undefS, [(d1, .dp e k (putC l i j c))]⟩ else none
      | _, _ => none
    | _, _ => none
  | .lend x => match x.ev s with
    | some (.ms d' _ n) => match get s.h d' with
      | some (.dp _ _ _) => some ⟨.p (.sc (.int .i64 (n : Nat))), []⟩
      | _ => none
    | _ => none
  | .mvs x y => match x.ev s, y.ev s with
    | some v, some (.ms d' off len) => match get s.h d' with
      | some (.dp e k l) => if okSet l = true then some ⟨v, [(d', .row e k true (setL l))]⟩ else none
      | _ => none
    | _, _ => none
  | .cld f l => match evs s l with
    | some vs => match frzs s.h vs with
      | some (ys, fr) => match call f ys with
        | some r => ret1d s.h fr d r
        | none => none
      | none => none
    | none => none
  | .bldp z ps => match evp s (ps.map fun q => q.2.2) with
    | some ys => match fillP z ((ps.zip ys).map fun q => (q.1.1, q.1.2.1, q.2)) with
      | some cs => some ⟨.p (.st cs), []⟩
      | none => none
    | none => none
  | .bslp e k z ps => match evp s (ps.map fun q => q.2) with
    | some ys => match fillR k z ((ps.zip ys).map fun q => (q.1.1, q.2)) with
      | some rs => some ⟨.p (.sl k rs), []⟩
      | none => none
    | none => none
  | .ixa k m x i => match x.ev s, i.ev s with
    | some (.p (.st l)), some w => match natOf w with
      | some n => if n < m ∧ n * k + k ≤ l.length then some ⟨.p (.st ((l.drop (n * k)).take k)), []⟩ else none
      | none => none
    | _, _ => none
  | .sbn T e => match newId s.h d with
    | some id => some ⟨.mp id 0 0, [(id, .dp T 2 (sbRow e []))]⟩
    | none => none
  | .sbw f x y => match call f [] with | some r => sbwE s x y r | none => none
  | .sbs f x => match call f [] with | some r => sbsE s x r | none => none
  | .b2s x => match x.ev s with
    | some u => match elems s.h u with
      | some (_, ys) => match eff.bytesOf ys with | some b => some ⟨.p (.sc (.string b)), []⟩ | none => none
      | none => none
    | none => none

def puts (t : List (Nat × SV)) (d : Option Nat) (v : SV) : List (Nat × SV) := match d with | some d => put t d v | none => t

def step (call : Call) (o : AOper) (s : St) : Option St :=
  match o.g with
  | none => match eff call s (o.d.getD 0) o.o with
    | some e => some ⟨puts s.t o.d e.v, putAll s.h e.hs⟩
    | none => none
  | some (g, w) => match get s.t g with
    | some v => match v with
      | .p (.sc (.bool b)) =>
        if b = w then
          match eff call s (o.d.getD 0) o.o with
          | some e => some ⟨puts s.t o.d e.v, putAll s.h e.hs⟩
          | none => none
        else some ⟨puts s.t o.d undefS, s.h⟩
      | .p (.sc (.tuple _)) => some ⟨puts s.t o.d undefS, s.h⟩
      | _ => none
    | none => none

def steps (call : Call) : List AOper → St → Option St
  | [], s => some s
  | o :: os, s => match step call o s with
    | some s' => steps call os s'
    | none => none

def SV.ref : SV → Nat → Bool
  | .ms d _ _, e => d == e
  | .mp d _ _, e => d == e
  | _, _ => false
def SV.ren (a b : Nat) : SV → SV
  | .ms d o n => .ms (if d = a then b else d) o n
  | .mp d i j => .mp (if d = a then b else d) i j
  | v => v
def SV.id? : SV → Option Nat
  | .ms d _ _ => some d
  | .mp d _ _ => some d
  | _ => none

def keepT (keep : List Nat) (t : List (Nat × SV)) : List (Nat × SV) := t.filter fun q => keep.contains q.1
def gc (t : List (Nat × SV)) (h : List (Nat × Ob)) : List (Nat × Ob) := h.filter fun q => t.any fun r => r.2.ref q.1
/-- The object of slot n gets the number n, if that is free. -/
def ren1 (s : St) (n : Nat) : St :=
  match get s.t n with
  | some v => match v.id? with
    | some d => if d = n then s else match get s.h n, get s.h d with
      | none, some o => if o.isDp = false ∧ n < 800000 then ⟨s.t.map fun q => (q.1, q.2.ren d n), put (s.h.filter fun q => q.1 != d) n o⟩ else s
      | _, _ => s
    | none => s
  | none => s
def norm (keep : List Nat) (s : St) : St :=
  let t := keepT keep s.t
  keep.foldl ren1 ⟨t, gc t s.h⟩

/-- What a slot points to is not written from now on. -/
def fz1 (s : St) (n : Nat) : St :=
  match get s.t n with
  | some v => match frz s.h v with
    | some (y, fr) => ⟨put s.t n (.p y), putAll s.h fr⟩
    | none => s
  | none => s

def finish (fn : AFunc) (s : St) : Option Ret :=
  match fn.rs with
  | [.t n] => match get s.t n with
    | some (.ms d off len) => match get s.h d with
      | some (.row e k fz l) =>
        if fz = false ∧ off = 0 ∧ len = l.length then some (.own e k l)
        else if off + len ≤ l.length then some (.val (.sl k ((l.drop off).take len))) else none
      | _ => none
    | some v => match frz s.h v with | some (x, _) => some (.val x) | none => none
    | none => none
  | [.td n] => match get s.t n with
    | some (.ms d off len) => match get s.h d with
      | some (.dp e k l) => if off = 0 ∧ len = l.length then some (.deep e k l) else none
      | _ => none
    | _ => none
  | [r] => match one s r with | some x => some (.val x) | none => none
  | rs => match many s rs with | some xs => some (.val (.tu xs)) | none => none
where
  one (s : St) : ARes → Option PV
  | .t n => match get s.t n with
    | some v => match frz s.h v with | some (x, _) => some x | none => none
    | none => none
  | .c1 n => match get s.t n with
    | some (.mp d i j) => match get s.h d with | some (.row _ _ _ l) => cellAt l i j | _ => none
    | _ => none
  | .ck n k => match get s.t n with
    | some (.mp d i j) => match get s.h d with
      | some (.row _ _ _ l) => match l[i]? with
        | some c => if j + k ≤ c.length then some (.st ((c.drop j).take k)) else none
        | none => none
      | _ => none
    | _ => none
  | .td _ => none
  many (s : St) : List ARes → Option (List PV)
  | [] => some []
  | r :: rs => match one s r with
    | some x => match many s rs with | some xs => some (x :: xs) | none => none
    | none => none

def entry : Nat → List PV → List (Nat × SV)
  | _, [] => []
  | n, x :: xs => (n, .p x) :: entry (n + 1) xs

structure Env where
  ap : FuncId → Option AFunc
  ext : FuncId → List PV → Option Ret
  isExt : FuncId → Bool

mutual
def code (E : Env) : Nat → ACode → St → Option (Out × St)
  | 0, _, _ => none
  | k + 1, c, s => match c with
    | .skip => some (.nor, s)
    | .reg ops keep => match steps (call E k) ops s with
      | some s' => some (.nor, norm keep s')
      | none => none
    | .regf ops keep fz => match steps (call E k) ops (fz.foldl fz1 s) with
      | some s' => some (.nor, norm keep s')
      | none => none
    | .seq a b => match code E k a s with
      | some (.nor, s') => code E k b s'
      | r => r
    | .ite x a b => match x.ev s with
      | some (.p (.sc (.bool c))) => if c then code E k a s else code E k b s
      | _ => none
    | .blk id a => match code E k a s with
      | some (.ex i, s') => if i = id then some (.nor, s') else some (.ex i, s')
      | r => r
    | .loop keep a => match code E k a (norm keep s) with
      | some (.nor, s') => code E k (.loop keep a) s'
      | r => r
    | .ex id => some (.ex id, s)
    | .ret => some (.ret, s)
def call (E : Env) : Nat → FuncId → List PV → Option Ret
  | 0, _, _ => none
  | k + 1, f, args =>
    if E.isExt f then E.ext f args else
    match E.ap f with
    | some fn => if args.length = fn.np then
        match code E k fn.body ⟨entry 0 args, []⟩ with
        | some (.ex _, _) => none
        | some (_, s) => finish fn s
        | none => none
      else none
    | none => none
end
end Go.Proofs.Ytomnggbideepeaa.AM

end
section
/- The small machine without a bound on its rounds: what it comes to, and by which equations. No condition. -/
namespace Go.Proofs.Ytomnggbideepeaa.AM
set_option linter.unusedSimpArgs false
set_option linter.unusedVariables false
open Go

theorem eff_form (s : St) (d : Nat) (o : AOp) : (∃ e, ∀ c, eff c s d o = e) ∨ (∃ (f : FuncId) (ys : List PV) (g : Ret → Option Eff), ∀ c, eff c s d o = (c f ys).bind g) := by
  cases o
  case cl f l =>
    cases h1 : evs s l with
    | none => exact .inl ⟨none, fun c => by simp only [eff, h1]⟩
    | some vs =>
      cases h2 : frzs s.h vs with
      | none => exact .inl ⟨none, fun c => by simp only [eff, h1, h2]⟩
      | some q => exact .inr ⟨f, q.1, ret1 s.h q.2 d, fun c => by simp only [eff, h1, h2]; cases c f q.1 <;> rfl⟩
  case cld f l =>
    cases h1 : evs s l with
    | none => exact .inl ⟨none, fun c => by simp only [eff, h1]⟩
    | some vs =>
      cases h2 : frzs s.h vs with
      | none => exact .inl ⟨none, fun c => by simp only [eff, h1, h2]⟩
      | some q => exact .inr ⟨f, q.1, ret1d s.h q.2 d, fun c => by simp only [eff, h1, h2]; cases c f q.1 <;> rfl⟩
  case cv x l =>
    cases h0 : x.ev s with
    | none => exact .inl ⟨none, fun c => by simp only [eff, h0]⟩
    | some v =>
      cases h1 : evs s l with
      | none => exact .inl ⟨none, fun c => by simp only [eff, h0, h1]⟩
      | some vs =>
        cases v with
        | p y =>
          cases y with
          | fn f cs =>
            cases h2 : frzs s.h vs with
            | none => exact .inl ⟨none, fun c => by simp only [eff, h0, h1, h2]⟩
            | some q => exact .inr ⟨f, q.1 ++ cs, ret1 s.h q.2 d, fun c => by simp only [eff, h0, h1, h2]; cases c f (q.1 ++ cs) <;> rfl⟩
          | _ => exact .inl ⟨none, fun c => by simp only [eff, h0, h1]⟩
        | _ => exact .inl ⟨none, fun c => by simp only [eff, h0, h1]⟩
  case inv ty f m x l =>
    cases h0 : x.ev s with
    | none => exact .inl ⟨none, fun c => by simp only [eff, h0]⟩
    | some v =>
      cases h1 : evs s l with
      | none => exact .inl ⟨none, fun c => by simp only [eff, h0, h1]⟩
      | some vs =>
        cases v with
        | p y =>
          cases y with
          | ifc t' y =>
            by_cases ht : t' = ty
            · cases h2 : frzs s.h vs with
              | none => exact .inl ⟨none, fun c => by simp only [eff, h0, h1, h2, ht, if_true]⟩
              | some q => exact .inr ⟨f, y :: q.1, ret1 s.h q.2 d, fun c => by simp only [eff, h0, h1, h2, ht, if_true]; cases c f (y :: q.1) <;> rfl⟩
            · exact .inl ⟨none, fun c => by simp only [eff, h0, h1, ht, if_false]⟩
          | _ => exact .inl ⟨none, fun c => by simp only [eff, h0, h1]⟩
        | _ => exact .inl ⟨none, fun c => by simp only [eff, h0, h1]⟩
  case sbw f x y => exact .inr ⟨f, [], sbwE s x y, fun c => by simp only [eff]; cases c f [] <;> rfl⟩
  case sbs f x => exact .inr ⟨f, [], sbsE s x, fun c => by simp only [eff]; cases c f [] <;> rfl⟩
  all_goals exact .inl ⟨_, fun c => rfl⟩

def LeC (c c' : Call) : Prop := ∀ f a r, c f a = some r → c' f a = some r

theorem eff_mono {c c' : Call} (h : LeC c c') {s : St} {d : Nat} {o : AOp} {e : Eff} (he : eff c s d o = some e) : eff c' s d o = some e := by
  rcases eff_form s d o with ⟨x, hx⟩ | ⟨f, ys, g, hx⟩
  · rw [hx] at he ⊢; exact he
  · rw [hx] at he ⊢
    cases hc : c f ys with
    | none => rw [hc] at he; exact absurd he (by simp)
    | some r => rw [hc] at he; rw [h _ _ _ hc]; exact he

theorem step_mono {c c' : Call} (h : LeC c c') {o : AOper} {s s' : St} (hs : step c o s = some s') : step c' o s = some s' := by
  have key : ∀ {x}, (match eff c s (o.d.getD 0) o.o with | some e => some (⟨puts s.t o.d e.v, putAll s.h e.hs⟩ : St) | none => none) = some x → (match eff c' s (o.d.getD 0) o.o with | some e => some (⟨puts s.t o.d e.v, putAll s.h e.hs⟩ : St) | none => none) = some x := by
    intro x hx
    cases he : eff c s (o.d.getD 0) o.o with
    | none => rw [he] at hx; exact absurd hx (by simp)
    | some e => rw [he] at hx; rw [eff_mono h he]; exact hx
  unfold step at hs ⊢
  cases hg : o.g with
  | none => simp only [hg] at hs ⊢; exact key hs
  | some gw =>
    obtain ⟨g, w⟩ := gw
    simp only [hg] at hs ⊢
    cases hv : get s.t g with
    | none => simp only [hv] at hs; exact absurd hs (by simp)
    | some v =>
      simp only [hv] at hs ⊢
      split at hs
      · split at hs
        · rename_i h1; rw [if_pos h1]; exact key hs
        · rename_i h1; rw [if_neg h1]; exact hs
      · exact hs
      · exact absurd hs (by simp)

theorem steps_mono {c c' : Call} (h : LeC c c') : ∀ (os : List AOper) {s s' : St}, steps c os s = some s' → steps c' os s = some s'
  | [], _, _, hs => hs
  | o :: os, s, s', hs => by
    simp only [steps] at hs ⊢
    cases h1 : step c o s with
    | none => rw [h1] at hs; exact absurd hs (by simp)
    | some s1 => rw [h1] at hs; rw [step_mono h h1]; exact steps_mono h os hs

section
variable (E : Env) (k : Nat)
theorem c_skip (s : St) : code E (k + 1) .skip s = some (.nor, s) := rfl
theorem c_ex (id : Nat) (s : St) : code E (k + 1) (.ex id) s = some (.ex id, s) := rfl
theorem c_ret (s : St) : code E (k + 1) .ret s = some (.ret, s) := rfl
theorem c_reg (ops : List AOper) (keep : List Nat) (s : St) : code E (k + 1) (.reg ops keep) s = match steps (call E k) ops s with | some s' => some (.nor, norm keep s') | none => none := rfl
theorem c_regf (ops : List AOper) (keep fz : List Nat) (s : St) : code E (k + 1) (.regf ops keep fz) s = match steps (call E k) ops (fz.foldl fz1 s) with | some s' => some (.nor, norm keep s') | none => none := rfl
theorem c_seq (a b : ACode) (s : St) : code E (k + 1) (.seq a b) s = match code E k a s with | some (.nor, s') => code E k b s' | r => r := rfl
theorem c_ite (x : X) (a b : ACode) (s : St) : code E (k + 1) (.ite x a b) s = match x.ev s with | some (.p (.sc (.bool c))) => if c then code E k a s else code E k b s | _ => none := rfl
theorem c_blk (id : Nat) (a : ACode) (s : St) : code E (k + 1) (.blk id a) s = match code E k a s with | some (.ex i, s') => if i = id then some (.nor, s') else some (.ex i, s') | r => r := rfl
theorem c_loop (keep : List Nat) (a : ACode) (s : St) : code E (k + 1) (.loop keep a) s = match code E k a (norm keep s) with | some (.nor, s') => code E k (.loop keep a) s' | r => r := rfl
theorem c_call (f : FuncId) (args : List PV) : call E (k + 1) f args = if E.isExt f then E.ext f args else
    match E.ap f with
    | some fn => if args.length = fn.np then
        match code E k fn.body ⟨entry 0 args, []⟩ with
        | some (.ex _, _) => none
        | some (_, s) => finish fn s
        | none => none
      else none
    | none => none := rfl
end

mutual
theorem code_mono (E : Env) : ∀ k c s x, code E k c s = some x → code E (k + 1) c s = some x
  | 0, _, _, _, h => by simp [code] at h
  | k + 1, c, s, x, h => by
    have hc : LeC (call E k) (call E (k + 1)) := fun f a r hr => call_mono E k f a r hr
    have ih := code_mono E k
    cases c with
    | skip => exact h
    | ex id => exact h
    | ret => exact h
    | reg ops keep =>
      rw [c_reg] at h ⊢
      cases h1 : steps (call E k) ops s with
      | none => rw [h1] at h; exact absurd h (by simp)
      | some s' => rw [h1] at h; rw [steps_mono hc ops h1]; exact h
    | regf ops keep fz =>
      rw [c_regf] at h ⊢
      cases h1 : steps (call E k) ops (fz.foldl fz1 s) with
      | none => rw [h1] at h; exact absurd h (by simp)
      | some s' => rw [h1] at h; rw [steps_mono hc ops h1]; exact h
    | seq a b =>
      rw [c_seq] at h ⊢
      cases h1 : code E k a s with
      | none => rw [h1] at h; exact absurd h (by simp)
      | some y =>
        rw [h1] at h; rw [ih _ _ _ h1]
        obtain ⟨o, s'⟩ := y
        cases o with
        | nor => exact ih _ _ _ h
        | _ => exact h
    | ite x a b =>
      rw [c_ite] at h ⊢
      split at h
      · split at h
        · rename_i h1; rw [if_pos h1]; exact ih _ _ _ h
        · rename_i h1; rw [if_neg h1]; exact ih _ _ _ h
      · exact absurd h (by simp)
    | blk id a =>
      rw [c_blk] at h ⊢
      cases h1 : code E k a s with
      | none => rw [h1] at h; exact absurd h (by simp)
      | some y => rw [h1] at h; rw [ih _ _ _ h1]; exact h
    | loop keep a =>
      rw [c_loop] at h ⊢
      cases h1 : code E k a (norm keep s) with
      | none => rw [h1] at h; exact absurd h (by simp)
      | some y =>
        rw [h1] at h; rw [ih _ _ _ h1]
        obtain ⟨o, s'⟩ := y
        cases o with
        | nor => exact ih _ _ _ h
        | _ => exact h
theorem call_mono (E : Env) : ∀ k f a r, call E k f a = some r → call E (k + 1) f a = some r
  | 0, _, _, _, h => by simp [call] at h
  | k + 1, f, a, r, h => by
    have ih := code_mono E k
    rw [c_call] at h ⊢
    split at h
    · rename_i h1; rw [if_pos h1]; exact h
    · rename_i h1; rw [if_neg h1]
      cases h2 : E.ap f with
      | none => rw [h2] at h; exact absurd h (by simp)
      | some fn =>
        simp only [h2] at h ⊢
        split at h
        · rename_i h3; rw [if_pos h3]
          cases h4 : code E k fn.body ⟨entry 0 a, []⟩ with
          | none => rw [h4] at h; exact absurd h (by simp)
          | some y => rw [h4] at h; rw [ih _ _ _ h4]; exact h
        · exact absurd h (by simp)
end

theorem code_le (E : Env) {k m : Nat} (hkm : k ≤ m) {c s x} (h : code E k c s = some x) : code E m c s = some x := by
  induction hkm with
  | refl => exact h
  | step _ ih => exact code_mono E _ _ _ _ ih
theorem call_le (E : Env) {k m : Nat} (hkm : k ≤ m) {f a r} (h : call E k f a = some r) : call E m f a = some r := by
  induction hkm with
  | refl => exact h
  | step _ ih => exact call_mono E _ _ _ _ ih

open Classical in
/-- What a text comes to. -/
noncomputable def Code (E : Env) (c : ACode) (s : St) : Option (Out × St) := if h : ∃ k x, code E k c s = some x then some (Classical.choose (Classical.choose_spec h)) else none
open Classical in
/-- What a call comes to. -/
noncomputable def Run (E : Env) (f : FuncId) (a : List PV) : Option Ret := if h : ∃ k x, call E k f a = some x then some (Classical.choose (Classical.choose_spec h)) else none

theorem Code_iff (E : Env) (c : ACode) (s : St) (x : Out × St) : Code E c s = some x ↔ ∃ k, code E k c s = some x := by
  unfold Code
  constructor
  · intro h
    split at h
    · rename_i hh
      have := Classical.choose_spec (Classical.choose_spec hh)
      rw [Option.some.inj h] at this
      exact ⟨_, this⟩
    · exact absurd h (by simp)
  · rintro ⟨k, hk⟩
    have hh : ∃ k x, code E k c s = some x := ⟨k, x, hk⟩
    rw [dif_pos hh]
    have := Classical.choose_spec (Classical.choose_spec hh)
    rcases Nat.le_total k (Classical.choose hh) with hl | hl
    · rw [← this, code_le E hl hk]
    · rw [← hk, code_le E hl this]
theorem Run_iff (E : Env) (f : FuncId) (a : List PV) (r : Ret) : Run E f a = some r ↔ ∃ k, call E k f a = some r := by
  unfold Run
  constructor
  · intro h
    split at h
    · rename_i hh
      have := Classical.choose_spec (Classical.choose_spec hh)
      rw [Option.some.inj h] at this
      exact ⟨_, this⟩
    · exact absurd h (by simp)
  · rintro ⟨k, hk⟩
    have hh : ∃ k x, call E k f a = some x := ⟨k, r, hk⟩
    rw [dif_pos hh]
    have := Classical.choose_spec (Classical.choose_spec hh)
    rcases Nat.le_total k (Classical.choose hh) with hl | hl
    · rw [← this, call_le E hl hk]
    · rw [← hk, call_le E hl this]

theorem ext_some {α : Type} {a b : Option α} (h : ∀ x, a = some x ↔ b = some x) : a = b := by
  cases a with
  | none => cases b with
    | none => rfl
    | some y => exact ((h y).2 rfl)
  | some x => exact ((h x).1 rfl).symm

theorem steps_Run (E : Env) : ∀ (os : List AOper) (s s' : St), steps (Run E) os s = some s' ↔ ∃ k, steps (call E k) os s = some s' := by
  have e1 : ∀ (s : St) (d : Nat) (o : AOp) e, eff (Run E) s d o = some e ↔ ∃ k, eff (call E k) s d o = some e := by
    intro s d o e
    rcases eff_form s d o with ⟨x, hx⟩ | ⟨f, ys, g, hx⟩
    · simp only [hx]; exact ⟨fun h => ⟨0, h⟩, fun ⟨_, h⟩ => h⟩
    · simp only [hx]
      constructor
      · intro h
        cases hr : Run E f ys with
        | none => rw [hr] at h; exact absurd h (by simp)
        | some r => obtain ⟨k, hk⟩ := (Run_iff E f ys r).1 hr; rw [hr] at h; exact ⟨k, by rw [hk]; exact h⟩
      · rintro ⟨k, h⟩
        cases hr : call E k f ys with
        | none => rw [hr] at h; exact absurd h (by simp)
        | some r => rw [(Run_iff E f ys r).2 ⟨k, hr⟩]; rw [hr] at h; exact h
  have hle : ∀ k, LeC (call E k) (Run E) := fun k f a r h => (Run_iff E f a r).2 ⟨k, h⟩
  intro os
  induction os with
  | nil => intro s s'; exact ⟨fun h => ⟨0, h⟩, fun ⟨_, h⟩ => h⟩
  | cons o os ih =>
    intro s s'
    refine ⟨fun h => ?_, fun ⟨k, h⟩ => steps_mono (hle k) _ h⟩
    simp only [steps] at h
    cases h1 : step (Run E) o s with
    | none => rw [h1] at h; exact absurd h (by simp)
    | some s1 =>
      rw [h1] at h
      obtain ⟨k2, hk2⟩ := (ih s1 s').1 h
      have : ∃ k, step (call E k) o s = some s1 := by
        have key : ∀ {x}, (match eff (Run E) s (o.d.getD 0) o.o with | some e => some (⟨puts s.t o.d e.v, putAll s.h e.hs⟩ : St) | none => none) = some x → ∃ k, (match eff (call E k) s (o.d.getD 0) o.o with | some e => some (⟨puts s.t o.d e.v, putAll s.h e.hs⟩ : St) | none => none) = some x := by
          intro x hx
          cases he : eff (Run E) s (o.d.getD 0) o.o with
          | none => rw [he] at hx; exact absurd hx (by simp)
          | some e => rw [he] at hx; obtain ⟨k, hk⟩ := (e1 _ _ _ _).1 he; exact ⟨k, by rw [hk]; exact hx⟩
        unfold step at h1 ⊢
        cases hg : o.g with
        | none => simp only [hg] at h1 ⊢; exact key h1
        | some gw =>
          obtain ⟨g, w⟩ := gw
          simp only [hg] at h1 ⊢
          cases hv : get s.t g with
          | none => simp only [hv] at h1; exact absurd h1 (by simp)
          | some v =>
            simp only [hv] at h1 ⊢
            split at h1
            · split at h1
              · rename_i h2; simp only [if_pos h2]; exact key h1
              · rename_i h2; simp only [if_neg h2]; exact ⟨0, h1⟩
            · exact ⟨0, h1⟩
            · exact absurd h1 (by simp)
      obtain ⟨k1, hk1⟩ := this
      refine ⟨max k1 k2, ?_⟩
      simp only [steps]
      rw [step_mono (fun f a r h => call_le E (Nat.le_max_left k1 k2) h) hk1]
      exact steps_mono (fun f a r h => call_le E (Nat.le_max_right k1 k2) h) os hk2

section
variable (E : Env)
theorem Code_skip (s : St) : Code E .skip s = some (.nor, s) := (Code_iff ..).2 ⟨1, rfl⟩
theorem Code_ex (id : Nat) (s : St) : Code E (.ex id) s = some (.ex id, s) := (Code_iff ..).2 ⟨1, rfl⟩
theorem Code_ret (s : St) : Code E .ret s = some (.ret, s) := (Code_iff ..).2 ⟨1, rfl⟩
theorem Code_reg (ops : List AOper) (keep : List Nat) (s : St) : Code E (.reg ops keep) s = match steps (Run E) ops s with | some s' => some (.nor, norm keep s') | none => none := by
  refine ext_some fun x => ?_
  rw [Code_iff]
  constructor
  · rintro ⟨k, h⟩
    cases k with
    | zero => exact absurd h (by simp [code])
    | succ k =>
      rw [c_reg] at h
      cases h1 : steps (call E k) ops s with
      | none => rw [h1] at h; exact absurd h (by simp)
      | some s' => rw [(steps_Run E ops s s').2 ⟨k, h1⟩]; rw [h1] at h; exact h
  · intro h
    cases h1 : steps (Run E) ops s with
    | none => rw [h1] at h; exact absurd h (by simp)
    | some s' =>
      obtain ⟨k, hk⟩ := (steps_Run E ops s s').1 h1
      rw [h1] at h
      exact ⟨k + 1, by rw [c_reg]; rw [hk]; exact h⟩
theorem Code_regf (ops : List AOper) (keep fz : List Nat) (s : St) : Code E (.regf ops keep fz) s = match steps (Run E) ops (fz.foldl fz1 s) with | some s' => some (.nor, norm keep s') | none => none := by
  refine ext_some fun x => ?_
  rw [Code_iff]
  constructor
  · rintro ⟨k, h⟩
    cases k with
    | zero => exact absurd h (by simp [code])
    | succ k =>
      rw [c_regf] at h
      cases h1 : steps (call E k) ops (fz.foldl fz1 s) with
      | none => rw [h1] at h; exact absurd h (by simp)
      | some s' => rw [(steps_Run E ops (fz.foldl fz1 s) s').2 ⟨k, h1⟩]; rw [h1] at h; exact h
  · intro h
    cases h1 : steps (Run E) ops (fz.foldl fz1 s) with
    | none => rw [h1] at h; exact absurd h (by simp)
    | some s' =>
      obtain ⟨k, hk⟩ := (steps_Run E ops (fz.foldl fz1 s) s').1 h1
      rw [h1] at h
      exact ⟨k + 1, by rw [c_regf]; rw [hk]; exact h⟩
theorem Code_seq (a b : ACode) (s : St) : Code E (.seq a b) s = match Code E a s with | some (.nor, s') => Code E b s' | r => r := by
  refine ext_some fun x => ?_
  rw [Code_iff]
  constructor
  · rintro ⟨k, h⟩
    cases k with
    | zero => exact absurd h (by simp [code])
    | succ k =>
      rw [c_seq] at h
      cases h1 : code E k a s with
      | none => rw [h1] at h; exact absurd h (by simp)
      | some y =>
        rw [(Code_iff E a s y).2 ⟨k, h1⟩]; rw [h1] at h
        obtain ⟨o, s'⟩ := y
        cases o with
        | nor => exact (Code_iff ..).2 ⟨k, h⟩
        | _ => exact h
  · intro h
    cases h1 : Code E a s with
    | none => rw [h1] at h; exact absurd h (by simp)
    | some y =>
      obtain ⟨k1, hk1⟩ := (Code_iff E a s y).1 h1
      rw [h1] at h
      obtain ⟨o, s'⟩ := y
      cases o with
      | nor =>
        obtain ⟨k2, hk2⟩ := (Code_iff ..).1 h
        exact ⟨max k1 k2 + 1, by rw [c_seq]; rw [code_le E (Nat.le_max_left k1 k2) hk1]; exact code_le E (Nat.le_max_right k1 k2) hk2⟩
      | _ => exact ⟨k1 + 1, by rw [c_seq]; rw [hk1]; exact h⟩
theorem Code_ite (x : X) (a b : ACode) (s : St) : Code E (.ite x a b) s = match x.ev s with | some (.p (.sc (.bool c))) => if c then Code E a s else Code E b s | _ => none := by
  refine ext_some fun y => ?_
  rw [Code_iff]
  constructor
  · rintro ⟨k, h⟩
    cases k with
    | zero => exact absurd h (by simp [code])
    | succ k =>
      rw [c_ite] at h
      split at h
      · split at h
        · rename_i h1; rw [if_pos h1]; exact (Code_iff ..).2 ⟨k, h⟩
        · rename_i h1; rw [if_neg h1]; exact (Code_iff ..).2 ⟨k, h⟩
      · exact absurd h (by simp)
  · intro h
    split at h
    · rename_i c hc
      split at h
      · rename_i h1; obtain ⟨k, hk⟩ := (Code_iff ..).1 h; exact ⟨k + 1, by rw [c_ite, hc]; simp only [if_pos h1]; exact hk⟩
      · rename_i h1; obtain ⟨k, hk⟩ := (Code_iff ..).1 h; exact ⟨k + 1, by rw [c_ite, hc]; simp only [if_neg h1]; exact hk⟩
    · exact absurd h (by simp)
theorem Code_blk (id : Nat) (a : ACode) (s : St) : Code E (.blk id a) s = match Code E a s with | some (.ex i, s') => if i = id then some (.nor, s') else some (.ex i, s') | r => r := by
  refine ext_some fun x => ?_
  rw [Code_iff]
  constructor
  · rintro ⟨k, h⟩
    cases k with
    | zero => exact absurd h (by simp [code])
    | succ k =>
      rw [c_blk] at h
      cases h1 : code E k a s with
      | none => rw [h1] at h; exact absurd h (by simp)
      | some y => rw [(Code_iff E a s y).2 ⟨k, h1⟩]; rw [h1] at h; exact h
  · intro h
    cases h1 : Code E a s with
    | none => rw [h1] at h; exact absurd h (by simp)
    | some y =>
      obtain ⟨k1, hk1⟩ := (Code_iff E a s y).1 h1
      rw [h1] at h
      exact ⟨k1 + 1, by rw [c_blk]; rw [hk1]; exact h⟩
theorem Code_loop (keep : List Nat) (a : ACode) (s : St) : Code E (.loop keep a) s = match Code E a (norm keep s) with | some (.nor, s') => Code E (.loop keep a) s' | r => r := by
  refine ext_some fun x => ?_
  rw [Code_iff]
  constructor
  · rintro ⟨k, h⟩
    cases k with
    | zero => exact absurd h (by simp [code])
    | succ k =>
      rw [c_loop] at h
      cases h1 : code E k a (norm keep s) with
      | none => rw [h1] at h; exact absurd h (by simp)
      | some y =>
        rw [(Code_iff E a _ y).2 ⟨k, h1⟩]; rw [h1] at h
        obtain ⟨o, s'⟩ := y
        cases o with
        | nor => exact (Code_iff ..).2 ⟨k, h⟩
        | _ => exact h
  · intro h
    cases h1 : Code E a (norm keep s) with
    | none => rw [h1] at h; exact absurd h (by simp)
    | some y =>
      obtain ⟨k1, hk1⟩ := (Code_iff E a _ y).1 h1
      rw [h1] at h
      obtain ⟨o, s'⟩ := y
      cases o with
      | nor =>
        obtain ⟨k2, hk2⟩ := (Code_iff ..).1 h
        exact ⟨max k1 k2 + 1, by rw [c_loop]; rw [code_le E (Nat.le_max_left k1 k2) hk1]; exact code_le E (Nat.le_max_right k1 k2) hk2⟩
      | _ => exact ⟨k1 + 1, by rw [c_loop]; rw [hk1]; exact h⟩
theorem Run_eq (f : FuncId) (fn : AFunc) (a : List PV) (he : E.isExt f = false) (hf : E.ap f = some fn) (ha : a.length = fn.np) :
    Run E f a = match Code E fn.body ⟨entry 0 a, []⟩ with | some (.ex _, _) => none | some (_, s) => finish fn s | none => none := by
  refine ext_some fun r => ?_
  rw [Run_iff]
  constructor
  · rintro ⟨k, h⟩
    cases k with
    | zero => exact absurd h (by simp [call])
    | succ k =>
      rw [c_call] at h; simp only [he, hf, ha, if_true, Bool.false_eq_true, if_false] at h
      cases h1 : code E k fn.body ⟨entry 0 a, []⟩ with
      | none => rw [h1] at h; exact absurd h (by simp)
      | some y => rw [(Code_iff ..).2 ⟨k, h1⟩]; rw [h1] at h; exact h
  · intro h
    cases h1 : Code E fn.body ⟨entry 0 a, []⟩ with
    | none => rw [h1] at h; exact absurd h (by simp)
    | some y =>
      obtain ⟨k, hk⟩ := (Code_iff ..).1 h1
      rw [h1] at h
      exact ⟨k + 1, by rw [c_call]; simp only [he, hf, ha, if_true, Bool.false_eq_true, if_false]; rw [hk]; exact h⟩
theorem Run_ext (f : FuncId) (a : List PV) (he : E.isExt f = true) : Run E f a = E.ext f a := by
  refine ext_some fun r => ?_
  rw [Run_iff]
  constructor
  · rintro ⟨k, h⟩
    cases k with
    | zero => exact absurd h (by simp [call])
    | succ k => rw [c_call, if_pos he] at h; exact h
  · intro h
    exact ⟨1, by rw [c_call, if_pos he]; exact h⟩
end
end Go.Proofs.Ytomnggbideepeaa.AM

end
