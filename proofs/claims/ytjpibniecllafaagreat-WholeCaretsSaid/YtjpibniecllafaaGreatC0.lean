/- Made by pack.py: AM0, AM1, VR0, AM2. No condition but what each says. -/
import GoSem.Dispatch
import Derived.Lib.RuneBytes
import Derived.Test.YtjpibniecllafaaGreatProg
import Derived.Maps.OwnSet
import Derived.Orders
import Derived.Below
import Derived.Laws.AppendOwn
import Derived.Laws.OwnMore
import Derived.Laws.MakeOwn
import Derived.Laws.CopyRow
set_option linter.unusedSimpArgs false
set_option linter.unusedVariables false
set_option maxHeartbeats 16000000
universe u
namespace Go.Proofs.YtjpibniecllafaaGreat
theorem oIE {α : Type u} (a b : α) : (some a = some b) = (a = b) := Option.some.injEq a b
theorem oIj {α : Type u} {a b : α} (h : some a = some b) : a = b := Option.some.inj h
end Go.Proofs.YtjpibniecllafaaGreat
section
namespace Go.Proofs.YtjpibniecllafaaGreat.AM
open Go
mutual
inductive PV where
 | sc (v:Value)
 | st (l:List PV)
 | tu (l:List PV)
 | sl (k:Nat) (l:List (List PV))
 | pt (l:List PV)
 | fn (f:FuncId) (l:List PV)
 | ifc (t:TypeId) (x:PV)
 | ow (e k:Nat) (l:List (List PV))
 | ma (l:List Int)
 | hp (l:List SV) (h:List (Nat×Ob))
inductive RV where
 | p (x:PV)
 | ms (d off len:Nat)
 | mp (d i j:Nat)
 | mo (d:Nat)
inductive SV where
 | p (x:PV)
 | xs (k:Nat) (l:List (List PV))
 | ms (d off len:Nat)
 | mp (d i j:Nat)
 | mo (d:Nat)
 | sst (l:List RV)
 | stu (l:List RV)
 | fnv (f:FuncId) (l:List RV)
inductive Ob where
 | row (e k:Nat) (fz:Bool) (l:List (List PV))
 | it (s:ByteArray) (pos:Nat)
 | dp (e k:Nat) (l:List (List PV))
 | dead
 | gr (e k:Nat) (l:List (List RV))
 | mpo (U:List (List Int)) (fl:Int) (G F:List Int)
 | pin (l:List Nat)
end
def Ob.isDp:Ob->Bool
 | .dp .. =>true
 | .mpo .. =>true
 | _=>false
def Ob.isGr:Ob->Bool
 | .gr .. =>true
 | _=>false
def Ob.noPin:Ob->Bool | .pin _=>false | _=>true
def Ob.live:Ob->Bool | .dead=>false | .pin _=>false | _=>true
structure St where
 t:List (Nat×SV)
 h:List (Nat×Ob)
def get {α:Type}:List (Nat×α)->Nat->Option α
 | [],_=>none
 | (e,u)::l,d=>if e=d then some u else get l d
def put {α:Type}:List (Nat×α)->Nat->α->List (Nat×α)
 | [],d,v=> [(d,v)]
 | (e,u)::l,d,v=>if e=d then(d,v)::l else if d<e then(d,v):: (e,u)::l else(e,u)::put l d v
inductive X where
 | t (n:Nat)
 | c (v:SV)
 | f (n:FuncId)
abbrev t (n:Nat):X:= .t n
abbrev I (n:Int):X:= .c (.p (.sc (.int .i64 n)))
abbrev IK (k:IntKind) (n:Int):X:= .c (.p (.sc (.int k n)))
abbrev B (b:Bool):X:= .c (.p (.sc (.bool b)))
abbrev S (l:Array UInt8):X:= .c (.p (.sc (.string ⟨l⟩)))
abbrev pi (n:Int):PV:= .sc (.int .i64 n)
abbrev pI (k:IntKind) (n:Int):PV:= .sc (.int k n)
abbrev pb (b:Bool):PV:= .sc (.bool b)
abbrev pS (l:Array UInt8):PV:= .sc (.string ⟨l⟩)
inductive SOp where
 | bin (op:BinOp)
 | un (op:UnOp)
 | cv (k:IntKind)
 | i2s
 | s2s
 | idx
 | beq (ne:Bool)
 | peq (ne:Bool)
inductive AOp where
 | mv (x:X)
 | nl (e k:Nat)
 | pick (c a b:X)
 | box (e k:Nat) (x:X)
 | alloc (e k:Nat) (rows:List (List PV))
 | boxp (e k:Nat) (x:X)
 | alcp (e k:Nat) (c:List PV)
 | bld (z:List PV) (ps:List (Nat×Nat×X))
 | bsl (e k:Nat) (z:List (List PV)) (ps:List (Nat×X))
 | ld1 (x:X)
 | iap (k:Nat) (x i:X)
 | ldp1 (x:X)
 | ldpk (k:Nat) (x:X)
 | mvp (x:X)
 | ldk (k:Nat) (x:X)
 | sto (k:Nat) (a x:X)
 | s1 (o:SOp) (x:X)
 | s2 (o:SOp) (x y:X)
 | eqst (ne:Bool) (ks:List Nat) (x y:X)
 | nck (x:X)
 | apps (e by_:Nat) (x y:X)
 | mki (t:TypeId) (x:X)
 | inv (t:TypeId) (f:FuncId) (m:String) (x:X) (l:List X)
 | fld1 (x:X) (off:Nat)
 | fldk (x:X) (off k:Nat)
 | fa (x:X) (off:Nat)
 | ia (k:Nat) (x i:X)
 | aa (k n:Nat) (x i:X)
 | mkf (f:FuncId) (cs:List X)
 | mks (e k by_:Nat) (z:List PV) (l c:X)
 | slc (k:Nat) (x:X) (lo hi mx:Option X)
 | sls (x:X) (lo hi:Option X)
 | len (x:X)
 | lens (x:X)
 | app (e k by_:Nat) (x y:X)
 | cpy (k:Nat) (x y:X)
 | mm (mx:Bool) (l:List X)
 | rng (x:X)
 | nxt (x:X)
 | ext (x:X) (i:Nat)
 | cl (f:FuncId) (l:List X)
 | cv (x:X) (l:List X)
 | b2s (x:X)
 | cpyd (k:Nat) (x y:X)
 | cpyo (k:Nat) (x y:X)
 | iad (k:Nat) (x i:X)
 | fad (x:X) (off:Nat)
 | ld1d (x:X)
 | ld1o (x:X)
 | sto1o (a x:X)
 | stod (a x:X)
 | lend (x:X)
 | mvs (x y:X)
 | cld (f:FuncId) (l:List X)
 | ixa (k m:Nat) (x i:X)
 | bldp (z:List PV) (ps:List (Nat×Nat×X))
 | bslp (e k:Nat) (z:List (List PV)) (ps:List (Nat×X))
 | sbn (T e:TypeId)
 | sbw (f:FuncId) (x y:X)
 | sbs (f:FuncId) (x:X)
 | inl (f:FuncId) (l:List X)
 | cvs (x:X) (l:List X)
 | mkr (f:FuncId) (cs:List X)
 | exr (x:X) (i:Nat)
 | nlq (ne:Bool) (x:X)
 | bldr (z:List PV) (ps:List (Nat×Nat×X))
 | boxr (e k:Nat) (x:X)
 | ldr (x:X)
 | ldkr (k:Nat) (x:X)
 | stor (k:Nat) (a x:X)
 | far (x:X) (off:Nat)
 | aar (m:Nat) (x i:X)
 | ix1 (m:Nat) (x i:X)
 | alr (e k:Nat) (c:List PV)
 | storf (k:Nat) (a x:X)
 | bldrf (z:List PV) (ps:List (Nat×Nat×X))
 | nkr (x:X)
 | ldrn (e k:Nat) (x:X)
 | ldkf (ks:List Nat) (x:X)
 | inn (f:FuncId) (l:List X)
 | inq (f:FuncId) (l:List X)
structure AOper where
 d:Option Nat
 o:AOp
 g:Option (Nat×Bool):=none
inductive ACode where
 | skip
 | reg (ops:List AOper) (keep:List Nat)
 | regf (ops:List AOper) (keep fz:List Nat)
 | seq (a b:ACode)
 | ite (c:X) (a b:ACode)
 | blk (id:Nat) (a:ACode)
 | loop (keep:List Nat) (a:ACode)
 | loopc (keep:List Nat) (a:ACode)
 | ex (id:Nat)
 | ret
inductive ARes where
 | t (n:Nat)
 | c1 (n:Nat)
 | ck (n k:Nat)
 | td (n:Nat)
structure AFunc where
 np:Nat
 n:Nat
 rs:List ARes
 body:ACode
inductive Ret where
 | val (x:PV)
 | own (e k:Nat) (l:List (List PV))
 | deep (e k:Nat) (l:List (List PV))
 | sb (k:Nat) (T e:TypeId)
 | shr (v:SV) (h:List (Nat×Ob))
 | shn (v:SV) (h:List (Nat×Ob))
inductive Out where
 | nor
 | ex (id:Nat)
 | ret
abbrev Call:=FuncId->List PV->Option Ret
def X.ev (s:St):X->Option SV
 | .t n=>get s.t n
 | .c v=>match v with
  | .p x=>some (.p x)
  | .xs k l=>some (.xs k l)
  | _=>none
 | .f n=>some (.p (.fn n []))
def frz (h:List (Nat×Ob)):SV->Option (PV×List (Nat×Ob))
 | .p x=>some (x,[])
 | .xs k l=>some (.sl k l,[])
 | .ms d off len=>match get h d with
  | some (.row e k _ l)=>if off+len<=l.length then some (.sl k ((l.drop off).take len),[(d,.row e k true l)])else none
  | _=>none
 | .mp d i j=>match get h d with
  | some (.row e k _ l)=>match l[i]? with
   | some c=>if j<k then some (.pt (c.drop j),[(d,.row e k true l)])else none
   | none=>none
  | _=>none
 | _=>none
def frzs (h:List (Nat×Ob)):List SV->Option (List PV×List (Nat×Ob))
 | []=>some ([],[])
 | v::vs=>match frz h v with
  | some (x,a)=>match frzs h vs with
   | some (xs,b)=>some (x::xs,a++b)
   | none=>none
  | none=>none
def evs (s:St):List X->Option (List SV)
 | []=>some []
 | x::xs=>match x.ev s with
  | some v=>match evs s xs with
   | some vs=>some (v::vs)
   | none=>none
  | none=>none
def evp (s:St):List X->Option (List PV)
 | []=>some []
 | x::xs=>match x.ev s with
  | some (.p y)=>match evp s xs with
   | some ys=>some (y::ys)
   | none=>none
  | _=>none
def putAll (h:List (Nat×Ob)):List (Nat×Ob)->List (Nat×Ob)
 | []=>h
 | (d,o)::l=>putAll (put h d o) l
def newIdN (h:List (Nat×Ob)):Nat->Nat->Option Nat
 | 0,_=>none
 | n+1,d=>match get h d with
  | none=>some d
  | some _=>newIdN h n (d+100000)
def newId (h:List (Nat×Ob))(d:Nat):Option Nat:=if d<100000 then newIdN h 8 d else none
def PV.cells:PV->Option (List PV)
 | .st l=>some l
 | .tu _=>none
 | .ow _ _ _=>none
 | .sc (.agg _)=>none
 | .sc (.tuple _)=>none
 | x=>some [x]
def binS (op:BinOp):PV->PV->Option PV
 | .sc (.int k a),.sc (.int k' b) =>
  match op with
  | .add=>if k=k' then some (.sc (.int k (k.wrap (a+b))))else none
  | .sub=>if k=k' then some (.sc (.int k (k.wrap (a-b))))else none
  | .mul=>if k=k' then some (.sc (.int k (k.wrap (a*b))))else none
  | .quo=>if k=k' then(if b=0 then none else some (.sc (.int k (k.wrap (a.tdiv b)))))else none
  | .rem=>if k=k' then(if b=0 then none else some (.sc (.int k (a.tmod b))))else none
  | .and=>if k=k' then some (.sc (.int k (k.wrap ((BitVec.ofInt k.bits a &&& BitVec.ofInt k.bits b).toNat))))else none
  | .or=>if k=k' then some (.sc (.int k (k.wrap ((BitVec.ofInt k.bits a ||| BitVec.ofInt k.bits b).toNat))))else none
  | .xor=>if k=k' then some (.sc (.int k (k.wrap ((BitVec.ofInt k.bits a ^^^ BitVec.ofInt k.bits b).toNat))))else none
  | .andNot=>if k=k' then some (.sc (.int k (k.wrap ((BitVec.ofInt k.bits a &&& ~~~BitVec.ofInt k.bits b).toNat))))else none
  | .shl=>if b<0 then none else some (.sc (.int k (k.wrap (a*2 ^ (min b.toNat k.bits)))))
  | .shr=>if b<0 then none else some (.sc (.int k (a.fdiv (2 ^ (min b.toNat k.bits)))))
  | .eql=>if k=k' then some (.sc (.bool (a == b)))else none
  | .neq=>if k=k' then some (.sc (.bool (a !=b)))else none
  | .lss=>if k=k' then some (.sc (.bool (decide (a<b))))else none
  | .leq=>if k=k' then some (.sc (.bool (decide (a<=b))))else none
  | .gtr=>if k=k' then some (.sc (.bool (decide (a > b))))else none
  | .geq=>if k=k' then some (.sc (.bool (decide (a≥b))))else none
 | .sc (.string a),.sc (.string b) =>
  match op with
  | .add=>if((a.size+b.size:Nat):Int)<=9223372036854775807 then some (.sc (.string (a++b)))else none
  | .eql=>some (.sc (.bool (a.toList == b.toList)))
  | .neq=>some (.sc (.bool (!(a.toList == b.toList))))
  | _=>none
 | _,_=>none
def eqCells:List Nat->List PV->List PV->Option Bool
 | [],[],[]=>some true
 | 0::ks,.sc (.int k a)::l,.sc (.int k' b)::m=>if k=k' then(match eqCells ks l m with | some r=>some ((a == b)&&r) | none=>none)else none
 | 1::ks,.sc (.bool a)::l,.sc (.bool b)::m=>match eqCells ks l m with | some r=>some ((a == b)&&r) | none=>none
 | 2::ks,.sc (.string a)::l,.sc (.string b)::m=>match eqCells ks l m with | some r=>some ((a == b)&&r) | none=>none
 | _,_,_=>none
def bt? (s:ByteArray)(i:Int):Option Int:=if 0<=i then(s[i.toNat]?).map fun b=> (b.toNat:Int)else none
def unS (op:UnOp):PV->Option PV
 | .sc (.bool b)=>match op with | .not=>some (.sc (.bool (!b))) | _=>none
 | .sc (.int k n)=>match op with
  | .neg=>some (.sc (.int k (k.wrap (0-n))))
  | _=>none
 | _=>none
def sop1 (o:SOp)(x:PV):Option PV :=
 match o with
 | .un op=>unS op x
 | .cv k=>match x with | .sc (.int _ n)=>some (.sc (.int k (k.wrap n))) | _=>none
 | .s2s=>match x with | .sc (.string s)=>some (.sc (.string s)) | _=>none
 | .i2s=>match x with | .sc (.int _ n)=>some (.sc (.string (Utf8.encode n))) | _=>none
 | _=>none
def sop2 (o:SOp)(x y:PV):Option PV :=
 match o with
 | .bin op=>binS op x y
 | .idx=>match x,y with
  | .sc (.string s),.sc (.int _ i)=> (bt? s i).map fun b=> .sc (.int .u8 b)
  | _,_=>none
 | .beq ne=>match x,y with
  | .sc (.bool a),.sc (.bool b)=>some (.sc (.bool (if ne then !(a == b)else a == b)))
  | _,_=>none
 | .peq ne=>match x,y with
  | .pt _,.sc (.pointer none)=>some (.sc (.bool ne))
  | .sc (.pointer none),.sc (.pointer none)=>some (.sc (.bool (!ne)))
  | _,_=>none
 | _=>none
def natOf (v:SV):Option Nat :=
 match v with
 | .p (.sc (.int _ i))=>if 0<=i then some i.toNat else none
 | _=>none
def natOr (s:St)(d:Nat):Option X->Option Nat
 | none=>some d
 | some x=>match x.ev s with
  | some v=>natOf v
  | none=>none
def fillP (z:List PV):List (Nat×Nat×PV)->Option (List PV)
 | []=>some z
 | (off,n,x)::ps=>match x.cells with
  | some c=>if c.length=n/\off+n<=z.length then fillP (z.take off++c++z.drop (off+n)) ps else none
  | none=>none
def fillR (k:Nat)(z:List (List PV)):List (Nat×PV)->Option (List (List PV))
 | []=>some z
 | (i,x)::ps=>match x.cells with
  | some c=>if c.length=k/\i<z.length then fillR k (z.set i c) ps else none
  | none=>none
def mnmx (mx:Bool):PV->PV->Option PV
 | .sc (.int k x),.sc (.int _ y)=>some (.sc (.int k (if mx then(if y > x then y else x)else(if y<x then y else x))))
 | _,_=>none
def mnmxs (mx:Bool):PV->List PV->Option PV
 | x,[]=>some x
 | x,y::l=>match mnmx mx x y with | some z=>mnmxs mx z l | none=>none
def elems (h:List (Nat×Ob)):SV->Option (Nat×List (List PV))
 | .p (.sl k l)=>some (k,l)
 | .xs k l=>some (k,l)
 | .ms d off len=>match get h d with
  | some (.row _ k _ l)=>if off+len<=l.length then some (k,(l.drop off).take len)else none
  | _=>none
 | _=>none
def svLen (h:List (Nat×Ob))(v:SV):Option Nat :=
 match v with
 | .p (.sl _ l)=>some l.length
 | .xs _ l=>some l.length
 | .ms d _ n=>match get h d with
  | some (.row _ _ _ _)=>some n
  | _=>none
 | _=>none
structure Eff where
 v:SV
 hs:List (Nat×Ob)
def sv (x:PV):Option Eff:=some ⟨.p x,[]⟩
def uns (x:Option PV):Option Eff:=match x with | some x=>some ⟨.p x,[]⟩ | none=>none
def undefS:SV:= .p (.sc (.tuple #[]))
def PV.set:PV->PV
 | .ow _ k l=> .sl k l
 | x=>x
def PV.noHole:PV->Bool
 | .ow _ 0 _=>false
 | _=>true
def PV.noOw:PV->Bool
 | .ow _ _ _=>false
 | _=>true
def okSet (l:List (List PV)):Bool:=l.all fun c=>c.all PV.noHole
def plainL (l:List (List PV)):Bool:=l.all fun c=>c.all PV.noOw
def setL (l:List (List PV)):List (List PV):=l.map fun c=>c.map PV.set
def putC (l:List (List PV))(i j:Nat)(x:PV):List (List PV):=match l[i]? with | some c=>l.set i (c.set j x) | none=>l
def ret1 (h:List (Nat×Ob))(fr:List (Nat×Ob))(d:Nat):Ret->Option Eff
 | .val x=>some ⟨.p x,fr⟩
 | .own e k l=>match newId h d with
  | some id=>some ⟨.ms id 0 l.length,fr++ [(id,.row e k false l)]⟩
  | none=>none
 | .deep e k l=>if okSet l=true then
  match newId h d with
  | some id=>some ⟨.ms id 0 l.length,fr++ [(id,.row e k false (setL l))]⟩
  | none=>none
  else none
 | .sb _ _ _=>none
 | .shr _ _=>none
 | .shn _ _=>none
def ret1d (h:List (Nat×Ob))(fr:List (Nat×Ob))(d:Nat):Ret->Option Eff
 | .deep e k l=>match newId h d with
  | some id=>some ⟨.ms id 0 l.length,fr++ [(id,.dp e k l)]⟩
  | none=>none
 | _=>none
def maxBytes:Nat:=140737488355328
def bRows (l:List UInt8):List (List PV):=l.map fun b=> [.sc (.int .u8 b.toNat)]
def sbAdd (kd:Nat):PV->Option (List UInt8)
 | .sc (.string t)=>if kd=1 then some t.data.toList else none
 | .sc (.int .i32 r)=>if kd=3/\ -2147483648<=r/\r<=2147483647 then some (Lib.encodeRune r)else none
 | _=>none
def sbRow (e:TypeId)(l:List (List PV)):List (List PV):= [[.ow 1 0 [],.ow e 1 l]]
def unRow:List (List PV)->Option (TypeId×List (List PV))
 | [[.ow a b [],.ow e c l]]=>if a=1/\b=0/\c=1 then some (e,l)else none
 | _=>none
def eff.bytesL:List (List PV)->Option (List UInt8)
 | []=>some []
 | [.sc (.int .u8 n)]::l=> (eff.bytesL l).map (UInt8.ofNat n.toNat:: ·)
 | _=>none
def eff.bytesOf (l:List (List PV)):Option ByteArray:= (eff.bytesL l).map fun b=> ⟨b.toArray⟩
def sbBytes:List (List PV)->Option (List UInt8)
 | []=>some []
 | [.sc (.int .u8 n)]::l=>if 0<=n/\n<256 then(sbBytes l).map (UInt8.ofNat n.toNat:: ·)else none
 | _=>none
def sbwE (s:St) (x y:X):Ret->Option Eff
 | .sb kd T e=>match x.ev s,y.ev s with
  | some (.mp d' i j),some (.p y)=>match sbAdd kd y with
   | some bs=>match get s.h d' with
    | some (.dp T' k r)=>match unRow r with
     | some (e',l)=>if T'=T/\e'=e/\k=2/\i=0/\j=0/\l.length+bs.length+4<=maxBytes then
      some ⟨.p (.tu [.sc (.int .i64 bs.length),.sc .nilIface]),[(d',.dp T 2 (sbRow e (l++bRows bs)))]⟩
      else none
     | none=>none
    | _=>none
   | none=>none
  | _,_=>none
 | _=>none
def sbsE (s:St) (x:X):Ret->Option Eff
 | .sb kd T e=>match x.ev s with
  | some (.mp d' i j)=>match get s.h d' with
   | some (.dp T' k r)=>match unRow r with
    | some (e',l)=>if kd=2/\T'=T/\e'=e/\k=2/\i=0/\j=0 then
     match sbBytes l with
     | some b=>some ⟨.p (.sc (.string ⟨b.toArray⟩)),[(d',.dead)]⟩
     | none=>none
     else none
    | none=>none
   | _=>none
  | _=>none
 | _=>none
def cellAt (l:List (List PV))(i j:Nat):Option PV:=match l[i]? with | some c=>c[j]? | none=>none
def SV.rv:SV->Option RV
 | .p x=>some (.p x)
 | .ms d o n=>some (.ms d o n)
 | .mp d i j=>some (.mp d i j)
 | .mo d=>some (.mo d)
 | _=>none
def RV.sv:RV->SV
 | .p x=> .p x
 | .ms d o n=> .ms d o n
 | .mp d i j=> .mp d i j
 | .mo d=> .mo d
def SV.id?:SV->Option Nat
 | .ms d _ _=>some d
 | .mp d _ _=>some d
 | .mo d=>some d
 | _=>none
def thereV (h:List (Nat×Ob))(v:SV):Bool:=match v.id? with
 | some d=> (get h d).isSome
 | none=>true
def RV.id?:RV->Option Nat
 | .p _=>none
 | .ms d _ _=>some d
 | .mp d _ _=>some d
 | .mo d=>some d
def SV.refs:SV->List Nat
 | .ms d _ _=> [d]
 | .mp d _ _=> [d]
 | .mo d=> [d]
 | .sst l=>l.filterMap RV.id?
 | .stu l=>l.filterMap RV.id?
 | .fnv _ l=>l.filterMap RV.id?
 | _=> []
def Ob.refs:Ob->List Nat
 | .gr _ _ l=>l.flatten.filterMap RV.id?
 | _=> []
def RV.mapr (f:Nat->Nat):RV->RV
 | .p x=> .p x
 | .ms d o n=> .ms (f d) o n
 | .mp d i j=> .mp (f d) i j
 | .mo d=> .mo (f d)
def SV.mapr (f:Nat->Nat):SV->SV
 | .p x=> .p x
 | .xs k l=> .xs k l
 | .ms d o n=> .ms (f d) o n
 | .mp d i j=> .mp (f d) i j
 | .mo d=> .mo (f d)
 | .sst l=> .sst (l.map (·.mapr f))
 | .stu l=> .stu (l.map (·.mapr f))
 | .fnv g l=> .fnv g (l.map (·.mapr f))
def Ob.mapr (f:Nat->Nat):Ob->Ob
 | .gr e k l=> .gr e k (l.map fun c=>c.map (·.mapr f))
 | o=>o
def reach (h:List (Nat×Ob)):Nat->List Nat->List Nat->Option (List Nat)
 | 0,_,_=>none
 | _+1,[],acc=>some acc
 | f+1,d::todo,acc=>if acc.contains d then reach h f todo acc else match get h d with
  | some o=>if o.noPin=true then reach h f (todo++o.refs) (acc++ [d])else none
  | none=>none
def pos:List Nat->Nat->Nat
 | [],_=>0
 | e::l,d=>if e=d then 0 else pos l d+1
def subH (h:List (Nat×Ob))(f:Nat->Nat):List Nat->Nat->List (Nat×Ob)
 | [],_=> []
 | d::l,i=>match get h d with
  | some o=> (i,o.mapr f)::subH h f l (i+1)
  | none=>subH h f l (i+1)
def okK:List (Nat×Ob)->Nat->Bool
 | [],_=>true
 | (d,_)::h,i=>d == i&&okK h (i+1)
def freshs (h:List (Nat×Ob)):Nat->Nat->Option (List Nat)
 | 0,_=>some []
 | n+1,i=>match newIdN h 8 i with
  | some id=>match freshs h n (i+1)with
   | some l=>some (id::l)
   | none=>none
  | none=>none
def at0 (l:List Nat)(i:Nat):Nat:=l.getD i 0
def closeB (h:List (Nat×Ob))(n:Nat):Bool:=h.all fun q=>q.2.refs.all fun i=>decide (i<n)
def shrE (h:List (Nat×Ob))(R:List Nat)(d:Nat):Ret->Option Eff
 | .shr v h'=>if R.length<=h'.length/\2000+50*d+ (h'.length-R.length)<=100000/\okK h' 0=true/\ (v.refs.all fun i=>decide (i<h'.length))=true/\closeB h' h'.length=true then
  match freshs h (h'.length-R.length) (2000+50*d)with
  | some fr=>some ⟨v.mapr (at0 (R++fr)),h'.map fun q=> (at0 (R++fr) q.1,q.2.mapr (at0 (R++fr)))⟩
  | none=>none
  else none
 | _=>none
def inlE (call:FuncId->List PV->Option Ret)(s:St)(d:Nat)(f:FuncId)(vs:List SV):Option Eff :=
 match reach s.h 300 (vs.flatMap SV.refs) []with
 | some R=>match call (f+1000000) [.hp (vs.map (·.mapr (pos R))) (subH s.h (pos R) R 0)]with
  | some r=>shrE s.h R d r
  | none=>none
 | none=>none
def shnE (h:List (Nat×Ob))(R:List Nat)(d:Nat):Ret->Option Eff
 | .shn v h'=>if 2000+50*d+h'.length<=100000/\okK h' R.length=true/\ (v.refs.all fun i=>decide (i<R.length+h'.length))=true/\closeB h' (R.length+h'.length)=true then
  match freshs h h'.length (2000+50*d)with
  | some fr=>some ⟨v.mapr (at0 (R++fr)),h'.map fun q=> (at0 (R++fr) q.1,q.2.mapr (at0 (R++fr)))⟩
  | none=>none
  else none
 | _=>none
def noRow (h:List (Nat×Ob))(R:List Nat):Bool:=R.all fun d=>match get h d with | some (.gr _ _ _)=>true | some (.mpo _ _ _ _)=>true | _=>false
def innE (call:FuncId->List PV->Option Ret)(s:St)(d:Nat)(f:FuncId)(vs:List SV)(clean:Bool):Option Eff :=
 match reach s.h 300 (vs.flatMap SV.refs) []with
 | some R=>if(!clean||noRow s.h R)=true then
  match call (f+2000000) [.hp (vs.map (·.mapr (pos R))) (subH s.h (pos R) R 0)]with
  | some r=>shnE s.h R d r
  | none=>none
  else none
 | none=>none
def liveR (h:List (Nat×Ob))(d:Nat):Bool:=match get h d with | some o=>o.live | none=>false
def liveV (h:List (Nat×Ob))(v:SV):Bool:=v.refs.all (liveR h)
def rvs:List SV->Option (List RV)
 | []=>some []
 | v::vs=>match SV.rv v with
  | some x=>match rvs vs with
   | some xs=>some (x::xs)
   | none=>none
  | none=>none
def rcells:SV->Option (List RV)
 | .p x=>match x.cells with | some c=>some (c.map .p) | none=>none
 | .ms d o n=>some [.ms d o n]
 | .mp d i j=>some [.mp d i j]
 | .mo d=>some [.mo d]
 | .sst l=>some l
 | _=>none
def rcellss:List SV->Option (List (List RV))
 | []=>some []
 | v::vs=>match rcells v with
  | some x=>match rcellss vs with
   | some xs=>some (x::xs)
   | none=>none
  | none=>none
def fillQ (z:List RV):List (Nat×Nat×List RV)->Option (List RV)
 | []=>some z
 | (off,len,c)::ps=>if c.length=len/\off+len<=z.length then fillQ (z.take off++c++z.drop (off+len)) ps else none
def cellR (l:List (List RV))(i j:Nat):Option RV:=match l[i]? with | some c=>c[j]? | none=>none
def fzv (h:List (Nat×Ob)):SV->Option (SV×List (Nat×Ob))
 | .ms d o n=>match get h d with
  | some (.row _ _ _ _)=>match frz h (.ms d o n)with | some (x,fr)=>some (.p x,fr) | none=>none
  | _=>some (.ms d o n,[])
 | v=>some (v,[])
def fzvs (h:List (Nat×Ob)):List SV->Option (List SV×List (Nat×Ob))
 | []=>some ([],[])
 | v::vs=>match fzv h v with
  | some (x,a)=>match fzvs h vs with
   | some (xs,b)=>some (x::xs,a++b)
   | none=>none
  | none=>none
def RV.isNil:RV->Bool
 | .p (.sc (.slice none 0 0))=>true
 | _=>false
def fixN:List Nat->List PV->List PV
 | k::ks,y::ys=> (if 0<k/\ (RV.p y).isNil=true then .sl k []else y)::fixN ks ys
 | _,l=>l
def eff (call:Call) (s:St) (d:Nat):AOp->Option Eff
 | .mv x=>match x.ev s with | some v=>some ⟨v,[]⟩ | none=>none
 | .nl e k=>match newId s.h d with
  | some id=>some ⟨.ms id 0 0,[(id,.row e k false [])]⟩
  | none=>none
 | .pick c a b=>match c.ev s,a.ev s,b.ev s with
  | some (.p (.sc (.bool c))),some a,some b=>some ⟨if c then a else b,[]⟩
  | _,_,_=>none
 | .box e k x=>match x.ev s with
  | some v=>match frz s.h v with
   | some (y,fr)=>match y.cells with
    | some c=>if c.length=k then
     match newId s.h d with | some id=>some ⟨.mp id 0 0,fr++ [(id,.row e k false [c])]⟩ | none=>none
     else none
    | none=>none
   | none=>none
  | none=>none
 | .alloc e k rows=>match newId s.h d with | some id=>some ⟨.mp id 0 0,[(id,.row e k false rows)]⟩ | none=>none
 | .boxp e k x=>match x.ev s with
  | some v=>match frz s.h v with
   | some (y,fr)=>match y.cells with
    | some c=>if c.length=k then
     match newId s.h d with | some id=>some ⟨.p (.pt c),fr++ [(id,.row e k true [c])]⟩ | none=>none
     else none
    | none=>none
   | none=>none
  | none=>none
 | .alcp e k c=>match newId s.h d with | some id=>some ⟨.p (.pt c),[(id,.row e k true [c])]⟩ | none=>none
 | .bld z ps=>match evs s (ps.map fun q=>q.2.2)with
  | some vs=>match frzs s.h vs with
   | some (ys,fr)=>match fillP z ((ps.zip ys).map fun q=> (q.1.1,q.1.2.1,q.2))with
    | some cs=>some ⟨.p (.st cs),fr⟩
    | none=>none
   | none=>none
  | none=>none
 | .bsl e k z ps=>match evs s (ps.map fun q=>q.2)with
  | some vs=>match frzs s.h vs with
   | some (ys,fr)=>match fillR k z ((ps.zip ys).map fun q=> (q.1.1,q.2))with
    | some rs=>match newId s.h d with
     | some id=>some ⟨.ms id 0 rs.length,fr++ [(id,.row e k false rs)]⟩
     | none=>none
    | none=>none
   | none=>none
  | none=>none
 | .iap k x i=>match x.ev s,i.ev s with
  | some (.p (.sl k' l)),some w=>match natOf w with
   | some n=>if k'=k then(match l[n]? with | some c=>some ⟨.p (.pt c),[]⟩ | none=>none)else none
   | none=>none
  | _,_=>none
 | .ldp1 x=>match x.ev s with
  | some (.p (.pt (c::_)))=>some ⟨.p c,[]⟩
  | _=>none
 | .ldpk k x=>match x.ev s with
  | some (.p (.pt cs))=>if k<=cs.length then some ⟨.p (.st (cs.take k)),[]⟩else none
  | _=>none
 | .mvp x=>match x.ev s with
  | some v=>match frz s.h v with | some (y,fr)=>some ⟨.p y,fr⟩ | none=>none
  | none=>none
 | .ld1 x=>match x.ev s with
  | some (.p (.pt (c::_)))=>some ⟨.p c,[]⟩
  | some (.mp d' i j)=>match get s.h d' with
   | some (.row _ _ _ l)=>match cellAt l i j with | some c=>some ⟨.p c,[]⟩ | none=>none
   | _=>none
  | _=>none
 | .ldk k x=>match x.ev s with
  | some (.p (.pt cs))=>if k<=cs.length then some ⟨.p (.st (cs.take k)),[]⟩else none
  | some (.mp d' i j)=>match get s.h d' with
   | some (.row _ _ _ l)=>match l[i]? with
    | some c=>if j+k<=c.length then some ⟨.p (.st ((c.drop j).take k)),[]⟩else none
    | none=>none
   | _=>none
  | _=>none
 | .sto k a x=>match a.ev s,x.ev s with
  | some (.mp d' i j),some v=>match frz s.h v with
   | some (y,fr)=>match y.cells with
    | some yc=>if yc.length=k then
     match get s.h d' with
     | some (.row e k' false l)=>match l[i]? with
      | some c=>if j+k<=c.length/\ (fr.all fun q=>q.1 !=d')then some ⟨undefS,fr++ [(d',.row e k' false (l.set i (c.take j++yc++c.drop (j+k))))]⟩else none
      | none=>none
     | _=>none
     else none
    | none=>none
   | none=>none
  | _,_=>none
 | .s1 o x=>match x.ev s with
  | some (.p x)=>uns (sop1 o x)
  | _=>none
 | .s2 o x y=>match x.ev s,y.ev s with
  | some (.p x),some (.p y)=>uns (sop2 o x y)
  | some (.mp d' _ _),some (.p (.sc (.pointer none)))=>match o with
   | .peq ne=>match get s.h d' with
    | some (.row _ _ _ _)=>some ⟨.p (.sc (.bool ne)),[]⟩
    | _=>none
   | _=>none
  | _,_=>none
 | .eqst ne ks x y=>match x.ev s,y.ev s with
  | some (.p (.st a)),some (.p (.st b))=>match eqCells ks a b with | some r=>some ⟨.p (.sc (.bool (if ne then !r else r))),[]⟩ | none=>none
  | _,_=>none
 | .nck x=>match x.ev s with
  | some (.p (.pt l))=>some ⟨.p (.pt l),[]⟩
  | some (.mp d i j)=>match get s.h d with
   | some (.row _ _ _ _)=>some ⟨.mp d i j,[]⟩
   | _=>none
  | _=>none
 | .apps e by_ x y=>match x.ev s,y.ev s with
  | some (.ms d' off len),some (.p (.sc (.string t)))=>match get s.h d' with
   | some (.row e' k' false l) =>
    if e'=e/\k'=1/\off=0/\len=l.length/\ (l.length+t.size)*by_<=maxBytes/\l.length+t.size<=9223372036854775807 then
     match newId s.h d with
     | some id=>some ⟨.ms id 0 (l.length+t.size),[(d',.dead),(id,.row e 1 false (l++t.data.toList.map fun b=> [.sc (.int .u8 b.toNat)]))]⟩
     | none=>none
    else none
   | _=>none
  | _,_=>none
 | .mki ty x=>match x.ev s with
  | some v=>match frz s.h v with | some (y,fr)=>some ⟨.p (.ifc ty y),fr⟩ | none=>none
  | none=>none
 | .inv ty f _ x l=>match x.ev s,evs s l with
  | some (.p (.ifc ty' y)),some vs=>if ty'=ty then
   match frzs s.h vs with
   | some (ys,fr)=>match call f (y::ys)with
    | some r=>ret1 s.h fr d r
    | none=>none
   | none=>none
   else none
  | _,_=>none
 | .fld1 x off=>match x.ev s with
  | some (.p (.st l))=>match l[off]? with | some c=>some ⟨.p c,[]⟩ | none=>none
  | _=>none
 | .fldk x off k=>match x.ev s with
  | some (.p (.st l))=>if off+k<=l.length then some ⟨.p (.st ((l.drop off).take k)),[]⟩else none
  | _=>none
 | .fa x off=>match x.ev s with
  | some (.p (.pt cs))=>if off<cs.length then some ⟨.p (.pt (cs.drop off)),[]⟩else none
  | some (.mp d' i j)=>match get s.h d' with
   | some (.row _ _ _ _)=>some ⟨.mp d' i (j+off),[]⟩
   | _=>none
  | _=>none
 | .ia k x i=>match x.ev s,i.ev s with
  | some v,some w=>match natOf w with
   | some n=>match v with
    | .p (.sl k' l)=>if k'=k then(match l[n]? with | some c=>some ⟨.p (.pt c),[]⟩ | none=>none)else none
    | .xs k' l=>if k'=k then(match l[n]? with | some c=>some ⟨.p (.pt c),[]⟩ | none=>none)else none
    | .ms d' off len=>match get s.h d' with
     | some (.row _ k' _ _)=>if k'=k/\n<len then some ⟨.mp d' (off+n) 0,[]⟩else none
     | _=>none
    | _=>none
   | none=>none
  | _,_=>none
 | .aa k m x i=>match x.ev s,i.ev s with
  | some (.mp d' i' j),some w=>match natOf w with
   | some n=>match get s.h d' with
    | some (.row _ k' _ _)=>if k'=k/\n<m/\i'=0/\j=0 then some ⟨.mp d' n 0,[]⟩else none
    | _=>none
   | none=>none
  | _,_=>none
 | .mkf f cs=>match evs s cs with
  | some vs=>match frzs s.h vs with | some (ys,fr)=>some ⟨.p (.fn f ys),fr⟩ | none=>none
  | none=>none
 | .mks e k by_ z l c=>match l.ev s,c.ev s with
  | some lv,some cv=>match natOf lv,natOf cv with
   | some n,some m=>if n<=m/\m*by_<=maxBytes/\m<=9223372036854775807 then
    match newId s.h d with | some id=>some ⟨.ms id 0 n,[(id,.row e k false (List.replicate n z))]⟩ | none=>none
    else none
   | _,_=>none
  | _,_=>none
 | .slc k x lo hi mx=>match x.ev s with
  | some v=>match svLen s.h v with
   | some n=>match natOr s 0 lo,natOr s n hi with
    | some a,some b=>if a<=b/\b<=n then
     match mx with
     | none=>match v with
      | .p (.sl k' l)=>if k'=k then some ⟨.p (.sl k ((l.drop a).take (b-a))),[]⟩else none
      | .xs k' l=>if k'=k then some ⟨.p (.sl k ((l.drop a).take (b-a))),[]⟩else none
      | .ms d' off _=>match get s.h d' with
       | some (.row _ k' _ _)=>if k'=k then some ⟨.ms d' (off+a) (b-a),[]⟩else none
       | _=>none
      | _=>none
     | some m=>match natOr s 0 (some m)with
      | some c=>if c=b then
       match frz s.h v with
       | some (.sl k' l,fr)=>if k'=k then some ⟨.xs k ((l.drop a).take (b-a)),fr⟩else none
       | _=>none
       else none
      | none=>none
     else none
    | _,_=>none
   | none=>none
  | none=>none
 | .sls x lo hi=>match x.ev s with
  | some (.p (.sc (.string t)))=>match natOr s 0 lo,natOr s t.size hi with
   | some a,some b=>if a<=b/\b<=t.size then some ⟨.p (.sc (.string (t.extract a b))),[]⟩else none
   | _,_=>none
  | _=>none
 | .len x=>match x.ev s with
  | some v=>match svLen s.h v with | some n=>some ⟨.p (.sc (.int .i64 n)),[]⟩ | none=>none
  | none=>none
 | .lens x=>match x.ev s with
  | some (.p (.sc (.string t)))=>some ⟨.p (.sc (.int .i64 t.size)),[]⟩
  | _=>none
 | .app e k by_ x y=>match x.ev s,y.ev s with
  | some v,some u=>match elems s.h u with
   | some (k2,ys)=>if k2=k then
    match v with
    | .ms d' off len=>match get s.h d' with
     | some (.row e' k' false l) =>
      if e'=e/\k'=k/\off=0/\len=l.length/\ (l.length+ys.length)*by_<=maxBytes/\l.length+ys.length<=9223372036854775807 then
       match newId s.h d with
       | some id=>some ⟨.ms id 0 (l.length+ys.length),[(d',.dead),(id,.row e k false (l++ys))]⟩
       | none=>none
      else none
     | _=>none
    | .xs k' l =>
     if k'=k/\ (l.length+ys.length)*by_<=maxBytes/\l.length+ys.length<=9223372036854775807 then
      if ys.length=0 then some ⟨.xs k l,[]⟩
      else match newId s.h d with
       | some id=>some ⟨.ms id 0 (l.length+ys.length),[(id,.row e k false (l++ys))]⟩
       | none=>none
     else none
    | _=>none
    else none
   | none=>none
  | _,_=>none
 | .cpy k x y=>match x.ev s,y.ev s with
  | some (.ms d' off len),some u=>match elems s.h u with
   | some (k2,ys)=>match get s.h d' with
    | some (.row e k' false l)=>if k2=k/\k'=k/\off+len<=l.length then
     some ⟨.p (.sc (.int .i64 (min ys.length len:Nat))),[(d',.row e k' false (l.take off++ys.take len++l.drop (off+min ys.length len)))]⟩
     else none
    | _=>none
   | none=>none
  | _,_=>none
 | .mm mx l=>match evs s l with
  | some vs=>match frzs s.h vs with
   | some (y::ys,[])=>uns (mnmxs mx y ys)
   | _=>none
  | none=>none
 | .rng x=>match x.ev s with
  | some (.p (.sc (.string t)))=>match newId s.h d with | some id=>some ⟨.mp id 0 0,[(id,.it t 0)]⟩ | none=>none
  | _=>none
 | .nxt x=>match x.ev s with
  | some (.mp d' _ _)=>match get s.h d' with
   | some (.it t pos) =>
    if pos<t.size then
     some ⟨.p (.tu [.sc (.bool true),.sc (.int .i64 pos),.sc (.int .i32 (Utf8.decode t pos).1)]),[(d',.it t (pos+ (Utf8.decode t pos).2))]⟩
    else some ⟨.p (.tu [.sc (.bool false)]),[]⟩
   | _=>none
  | _=>none
 | .ext x i=>match x.ev s with
  | some (.p (.tu l))=>match l[i]? with | some c=>some ⟨.p c,[]⟩ | none=>none
  | _=>none
 | .cl f l=>match evs s l with
  | some vs=>match frzs s.h vs with
   | some (ys,fr)=>match call f ys with
    | some r=>ret1 s.h fr d r
    | none=>none
   | none=>none
  | none=>none
 | .cv x l=>match x.ev s,evs s l with
  | some (.p (.fn f cs)),some vs=>match frzs s.h vs with
   | some (ys,fr)=>match call f (ys++cs)with
    | some r=>ret1 s.h fr d r
    | none=>none
   | none=>none
  | _,_=>none
 | .cpyd k x y=>match x.ev s,y.ev s with
  | some (.ms d' off len),some u=>match elems s.h u with
   | some (k2,ys)=>match get s.h d' with
    | some (.row e k' false l)=>if k2=k/\k'=k/\off+len<=l.length/\plainL (l.take off++ys.take len++l.drop (off+min ys.length len))=true then
     some ⟨.p (.sc (.int .i64 (min ys.length len:Nat))),[(d',.dp e k' (l.take off++ys.take len++l.drop (off+min ys.length len)))]⟩
     else none
    | _=>none
   | none=>none
  | _,_=>none
 | .cpyo k x y=>match x.ev s,y.ev s with
  | some (.ms d1 off1 len1),some (.ms d2 off2 len2)=>match get s.h d1,get s.h d2 with
   | some (.row e k1 false l1),some (.dp e2 k2 l2) =>
    if d1≠d2/\e2=e/\k1=k/\k2=k/\off1=0/\off2=0/\len1=l1.length/\len2=l2.length/\l1.length=l2.length/\okSet l2=true then
     some ⟨.p (.sc (.int .i64 (l1.length:Nat))),[(d2,.dead),(d1,.dp e k l2)]⟩
    else none
   | _,_=>none
  | _,_=>none
 | .iad k x i=>match x.ev s,i.ev s with
  | some (.ms d' off len),some w=>match natOf w with
   | some n=>match get s.h d' with
    | some (.dp _ k' _)=>if k'=k/\n<len then some ⟨.mp d' (off+n) 0,[]⟩else none
    | _=>none
   | none=>none
  | _,_=>none
 | .fad x off=>match x.ev s with
  | some (.mp d' i j)=>match get s.h d' with
   | some (.dp _ _ _)=>some ⟨.mp d' i (j+off),[]⟩
   | _=>none
  | _=>none
 | .ld1d x=>match x.ev s with
  | some (.mp d' i j)=>match get s.h d' with
   | some (.dp _ _ l)=>match cellAt l i j with | some c=>if c.noOw=true then some ⟨.p c,[]⟩else none | none=>none
   | _=>none
  | _=>none
 | .ld1o x=>match x.ev s with
  | some (.mp d' i j)=>match get s.h d' with
   | some (.dp e k l)=>match cellAt l i j with
    | some (.ow e' k' l')=>if 0<k' then
     match newId s.h d with
     | some id=>some ⟨.ms id 0 l'.length,[(d',.dp e k (putC l i j (.ow 0 0 []))),(id,.row e' k' false l')]⟩
     | none=>none
     else none
    | _=>none
   | _=>none
  | _=>none
 | .sto1o a x=>match a.ev s,x.ev s with
  | some (.mp d1 i j),some (.ms d2 off len)=>match get s.h d1,get s.h d2 with
   | some (.dp e k l),some (.row e' k' false l') =>
    if off=0/\len=l'.length/\i<l.length/\j<k then
     some ⟨undefS,[(d2,.dead),(d1,.dp e k (putC l i j (.ow e' k' l')))]⟩
    else none
   | _,_=>none
  | _,_=>none
 | .stod a x=>match a.ev s,x.ev s with
  | some (.mp d1 i j),some (.p y)=>match get s.h d1,y.cells with
   | some (.dp e k l),some [c]=>if i<l.length/\j<k/\c.noOw=true then some ⟨undefS,[(d1,.dp e k (putC l i j c))]⟩else none
   | _,_=>none
  | _,_=>none
 | .lend x=>match x.ev s with
  | some (.ms d' _ n)=>match get s.h d' with
   | some (.dp _ _ _)=>some ⟨.p (.sc (.int .i64 (n:Nat))),[]⟩
   | _=>none
  | _=>none
 | .mvs x y=>match x.ev s,y.ev s with
  | some v,some (.ms d' off len)=>match get s.h d' with
   | some (.dp e k l)=>if okSet l=true then some ⟨v,[(d',.row e k true (setL l))]⟩else none
   | _=>none
  | _,_=>none
 | .cld f l=>match evs s l with
  | some vs=>match frzs s.h vs with
   | some (ys,fr)=>match call f ys with
    | some r=>ret1d s.h fr d r
    | none=>none
   | none=>none
  | none=>none
 | .bldp z ps=>match evp s (ps.map fun q=>q.2.2)with
  | some ys=>match fillP z ((ps.zip ys).map fun q=> (q.1.1,q.1.2.1,q.2))with
   | some cs=>some ⟨.p (.st cs),[]⟩
   | none=>none
  | none=>none
 | .bslp e k z ps=>match evp s (ps.map fun q=>q.2)with
  | some ys=>match fillR k z ((ps.zip ys).map fun q=> (q.1.1,q.2))with
   | some rs=>some ⟨.p (.sl k rs),[]⟩
   | none=>none
  | none=>none
 | .ixa k m x i=>match x.ev s,i.ev s with
  | some (.p (.st l)),some w=>match natOf w with
   | some n=>if n<m/\n*k+k<=l.length then some ⟨.p (.st ((l.drop (n*k)).take k)),[]⟩else none
   | none=>none
  | _,_=>none
 | .sbn T e=>match newId s.h d with
  | some id=>some ⟨.mp id 0 0,[(id,.dp T 2 (sbRow e []))]⟩
  | none=>none
 | .sbw f x y=>match call f []with | some r=>sbwE s x y r | none=>none
 | .sbs f x=>match call f []with | some r=>sbsE s x r | none=>none
 | .inl f l=>match evs s l with
  | some vs=>inlE call s d f vs
  | none=>none
 | .inn f l=>match evs s l with
  | some vs=>innE call s d f vs true
  | none=>none
 | .inq f l=>match evs s l with
  | some vs=>innE call s d f vs false
  | none=>none
 | .cvs x l=>match x.ev s,evs s l with
  | some (.fnv f cs),some vs=>inlE call s d f (vs++cs.map RV.sv)
  | some (.p (.fn f cs)),some vs=>inlE call s d f (vs++cs.map SV.p)
  | _,_=>none
 | .mkr f cs=>match evs s cs with
  | some vs=>match rvs vs with | some l=>some ⟨.fnv f l,[]⟩ | none=>none
  | none=>none
 | .exr x i=>match x.ev s with
  | some (.stu l)=>match l[i]? with | some c=>if thereV s.h c.sv=true then some ⟨c.sv,[]⟩else none | none=>none
  | some (.p (.tu l))=>match l[i]? with | some c=>some ⟨.p c,[]⟩ | none=>none
  | _=>none
 | .ldrn e k x=>match x.ev s with
  | some (.mp d' i j)=>match get s.h d' with
   | some (.gr _ _ l)=>match cellR l i j with
    | some c=>if c.isNil=true then(match newId s.h d with | some id=>some ⟨.ms id 0 0,[(id,.row e k false [])]⟩ | none=>none)else if thereV s.h c.sv=true then some ⟨c.sv,[]⟩else none
    | none=>none
   | _=>none
  | _=>none
 | .ldkf ks x=>match x.ev s with
  | some (.mp d' i j)=>match get s.h d' with
   | some (.gr _ _ l)=>match l[i]? with
    | some c=>if j+ks.length<=c.length then(match frzs s.h (((c.drop j).take ks.length).map RV.sv)with | some (ys,fr)=>some ⟨.p (.st (fixN ks ys)),fr⟩ | none=>none)else none
    | none=>none
   | _=>none
  | _=>none
 | .nkr x=>match x.ev s with
  | some (.mp d' i j)=>match get s.h d' with
   | some (.gr _ _ _)=>some ⟨.mp d' i j,[]⟩
   | _=>none
  | _=>none
 | .nlq ne x=>match x.ev s with
  | some (.mp d' _ _)=>match get s.h d' with
   | some (.gr _ _ _)=>some ⟨.p (.sc (.bool ne)),[]⟩
   | _=>none
  | _=>none
 | .bldr z ps=>match evs s (ps.map fun q=>q.2.2)with
  | some vs=>if vs.all (liveV s.h)=true then match rcellss vs with
   | some cs=>match fillQ (z.map .p) ((ps.zip cs).map fun q=> (q.1.1,q.1.2.1,q.2))with
    | some l=>some ⟨.sst l,[]⟩
    | none=>none
   | none=>none
   else none
  | none=>none
 | .boxr e k x=>match x.ev s with
  | some v=>match rcells v with
   | some c=>if c.length=k/\liveV s.h v=true then
    match newId s.h d with | some id=>some ⟨.mp id 0 0,[(id,.gr e k [c])]⟩ | none=>none
    else none
   | none=>none
  | none=>none
 | .ldr x=>match x.ev s with
  | some (.mp d' i j)=>match get s.h d' with
   | some (.gr _ _ l)=>match cellR l i j with | some c=>if thereV s.h c.sv=true then some ⟨c.sv,[]⟩else none | none=>none
   | _=>none
  | _=>none
 | .ldkr k x=>match x.ev s with
  | some (.mp d' i j)=>match get s.h d' with
   | some (.gr _ _ l)=>match l[i]? with
    | some c=>if j+k<=c.length then some ⟨.sst ((c.drop j).take k),[]⟩else none
    | none=>none
   | _=>none
  | _=>none
 | .stor k a x=>match a.ev s,x.ev s with
  | some (.mp d' i j),some v=>match rcells v with
   | some yc=>if yc.length=k/\liveV s.h v=true then
    match get s.h d' with
    | some (.gr e k' l)=>match l[i]? with
     | some c=>if j+k<=c.length then some ⟨undefS,[(d',.gr e k' (l.set i (c.take j++yc++c.drop (j+k))))]⟩else none
     | none=>none
    | _=>none
    else none
   | none=>none
  | _,_=>none
 | .far x off=>match x.ev s with
  | some (.mp d' i j)=>match get s.h d' with
   | some (.gr _ _ _)=>some ⟨.mp d' i (j+off),[]⟩
   | _=>none
  | _=>none
 | .aar m x i=>match x.ev s,i.ev s with
  | some (.mp d' i' j),some w=>match natOf w with
   | some n=>match get s.h d' with
    | some (.gr _ _ _)=>if n<m then some ⟨.mp d' i' (j+n),[]⟩else none
    | _=>none
   | none=>none
  | _,_=>none
 | .ix1 m x i=>match x.ev s,i.ev s with
  | some (.p (.st l)),some w=>match natOf w with
   | some n=>if n<m then(match l[n]? with | some c=>some ⟨.p c,[]⟩ | none=>none)else none
   | none=>none
  | _,_=>none
 | .alr e k c=>match newId s.h d with | some id=>some ⟨.mp id 0 0,[(id,.gr e k [c.map .p])]⟩ | none=>none
 | .storf k a x=>match a.ev s,x.ev s with
  | some (.mp d' i j),some v=>match frz s.h v with
   | some (y,fr)=>match y.cells with
    | some yc=>if yc.length=k then
     match get s.h d' with
     | some (.gr e k' l)=>match l[i]? with
      | some c=>if j+k<=c.length then some ⟨undefS,fr++ [(d',.gr e k' (l.set i (c.take j++yc.map .p++c.drop (j+k))))]⟩else none
      | none=>none
     | _=>none
     else none
    | none=>none
   | none=>none
  | _,_=>none
 | .bldrf z ps=>match evs s (ps.map fun q=>q.2.2)with
  | some vs=>match fzvs s.h vs with
   | some (vs,fr)=>if vs.all (liveV s.h)=true then match rcellss vs with
    | some cs=>match fillQ (z.map .p) ((ps.zip cs).map fun q=> (q.1.1,q.1.2.1,q.2))with
     | some l=>some ⟨.sst l,fr⟩
     | none=>none
    | none=>none
    else none
   | none=>none
  | none=>none
 | .b2s x=>match x.ev s with
  | some u=>match elems s.h u with
   | some (_,ys)=>match eff.bytesOf ys with | some b=>some ⟨.p (.sc (.string b)),[]⟩ | none=>none
   | none=>none
  | none=>none
def puts (t:List (Nat×SV))(d:Option Nat)(v:SV):List (Nat×SV):=match d with | some d=>put t d v | none=>t
def step (call:Call) (o:AOper) (s:St):Option St :=
 match o.g with
 | none=>match eff call s (o.d.getD 0) o.o with
  | some e=>some ⟨puts s.t o.d e.v,putAll s.h e.hs⟩
  | none=>none
 | some (g,w)=>match get s.t g with
  | some v=>match v with
   | .p (.sc (.bool b)) =>
    if b=w then
     match eff call s (o.d.getD 0) o.o with
     | some e=>some ⟨puts s.t o.d e.v,putAll s.h e.hs⟩
     | none=>none
    else some ⟨puts s.t o.d undefS,s.h⟩
   | .p (.sc (.tuple _))=>some ⟨puts s.t o.d undefS,s.h⟩
   | _=>none
  | none=>none
def steps (call:Call):List AOper->St->Option St
 | [],s=>some s
 | o::os,s=>match step call o s with
  | some s'=>steps call os s'
  | none=>none
def RV.ref:RV->Nat->Bool
 | .p _,_=>false
 | .ms d _ _,e=>d == e
 | .mp d _ _,e=>d == e
 | .mo d,e=>d == e
def RV.ren (a b:Nat):RV->RV
 | .p x=> .p x
 | .ms d o n=> .ms (if d=a then b else d) o n
 | .mp d i j=> .mp (if d=a then b else d) i j
 | .mo d=> .mo (if d=a then b else d)
def SV.ref:SV->Nat->Bool
 | .ms d _ _,e=>d == e
 | .mp d _ _,e=>d == e
 | .mo d,e=>d == e
 | .sst l,e=>l.any (·.ref e)
 | .stu l,e=>l.any (·.ref e)
 | .fnv _ l,e=>l.any (·.ref e)
 | _,_=>false
def SV.ren (a b:Nat):SV->SV
 | .ms d o n=> .ms (if d=a then b else d) o n
 | .mp d i j=> .mp (if d=a then b else d) i j
 | .mo d=> .mo (if d=a then b else d)
 | .sst l=> .sst (l.map (·.ren a b))
 | .stu l=> .stu (l.map (·.ren a b))
 | .fnv f l=> .fnv f (l.map (·.ren a b))
 | v=>v
def Ob.ref:Ob->Nat->Bool
 | .gr _ _ l,e=>l.any fun c=>c.any (·.ref e)
 | _,_=>false
def Ob.ren (a b:Nat):Ob->Ob
 | .gr e k l=> .gr e k (l.map fun c=>c.map (·.ren a b))
 | o=>o
def pinned (h:List (Nat×Ob))(d:Nat):Bool:=match get h 999999 with
 | some (.pin l)=>l.contains d
 | _=>false
def keepT (keep:List Nat)(t:List (Nat×SV)):List (Nat×SV):=t.filter fun q=>keep.contains q.1
def gc (t:List (Nat×SV))(h:List (Nat×Ob)):List (Nat×Ob):=h.filter fun q=> (t.any fun r=>r.2.ref q.1)|| (h.any fun r=>r.2.ref q.1)||pinned h q.1||q.1 == 999999
def ren1 (s:St)(n:Nat):St :=
 match get s.t n with
 | some v=>match v.id? with
  | some d=>if d=n then s else match get s.h n,get s.h d with
   | none,some o=>if o.isDp=false/\n<100000/\o.live=true/\pinned s.h d=false/\ (s.h.all fun q=> !q.2.ref d)=true/\ (s.t.all fun q=>q.2.id?.isSome|| !q.2.ref d)=true then⟨s.t.map fun q=> (q.1,q.2.ren d n),put (s.h.filter fun q=>q.1 !=d) n o⟩else s
   | _,_=>s
  | none=>s
 | none=>s
def norm (keep:List Nat)(s:St):St :=
 let t:=keepT keep s.t
 keep.foldl ren1 ⟨t,gc t s.h⟩
def pinsOf (h:List (Nat×Ob)):List Nat:=match get h 999999 with | some (.pin l)=>l | _=> []
def pinOb (h:List (Nat×Ob)):List (Nat×Ob):=match get h 999999 with | some (.pin l)=> [(999999,.pin l)] | _=> []
def canF (pins D:List Nat)(d:Nat):Nat:=if pins.contains d then d else 1000+pos D d
def canP (h:List (Nat×Ob))(f:Nat->Nat)(l:List Nat):List (Nat×Ob):=l.flatMap fun d=>match get h d with | some o=> [(d,o.mapr f)] | none=> []
def canon (s:St):St :=
 match reach s.h 300 (pinsOf s.h++s.t.flatMap fun q=>q.2.refs) []with
 | some R=>if R.take (pinsOf s.h).length=pinsOf s.h/\ ((pinsOf s.h).all fun d=>decide (d<1000))=true then
  ⟨s.t.map fun q=> (q.1,q.2.mapr (canF (pinsOf s.h) (R.drop (pinsOf s.h).length))),canP s.h (canF (pinsOf s.h) (R.drop (pinsOf s.h).length)) (pinsOf s.h)++subH s.h (canF (pinsOf s.h) (R.drop (pinsOf s.h).length)) (R.drop (pinsOf s.h).length) 1000++pinOb s.h⟩
  else s
 | none=>s
def fz1 (s:St)(n:Nat):St :=
 match get s.t n with
 | some v=>match frz s.h v with
  | some (y,fr)=> ⟨put s.t n (.p y),putAll s.h fr⟩
  | none=>s
 | none=>s
def finish (fn:AFunc) (s:St):Option Ret :=
 match fn.rs with
 | [.t n]=>match get s.t n with
  | some (.ms d off len)=>match get s.h d with
   | some (.row e k fz l) =>
    if fz=false/\off=0/\len=l.length then some (.own e k l)
    else if off+len<=l.length then some (.val (.sl k ((l.drop off).take len)))else none
   | _=>none
  | some v=>match frz s.h v with | some (x,_)=>some (.val x) | none=>none
  | none=>none
 | [.td n]=>match get s.t n with
  | some (.ms d off len)=>match get s.h d with
   | some (.dp e k l)=>if off=0/\len=l.length then some (.deep e k l)else none
   | _=>none
  | _=>none
 | [r]=>match one s r with | some x=>some (.val x) | none=>none
 | rs=>match many s rs with | some xs=>some (.val (.tu xs)) | none=>none
where
 one (s:St):ARes->Option PV
 | .t n=>match get s.t n with
  | some v=>match frz s.h v with | some (x,_)=>some x | none=>none
  | none=>none
 | .c1 n=>match get s.t n with
  | some (.mp d i j)=>match get s.h d with | some (.row _ _ _ l)=>cellAt l i j | _=>none
  | _=>none
 | .ck n k=>match get s.t n with
  | some (.mp d i j)=>match get s.h d with
   | some (.row _ _ _ l)=>match l[i]? with
    | some c=>if j+k<=c.length then some (.st ((c.drop j).take k))else none
    | none=>none
   | _=>none
  | _=>none
 | .td _=>none
 many (s:St):List ARes->Option (List PV)
 | []=>some []
 | r::rs=>match one s r with
  | some x=>match many s rs with | some xs=>some (x::xs) | none=>none
  | none=>none
def oneS (s:St):ARes->Option RV
 | .t n=>match get s.t n with
  | some v=>v.rv
  | none=>none
 | .c1 n=>match get s.t n with
  | some (.mp d i j)=>match get s.h d with
   | some (.row _ _ _ l)=>match cellAt l i j with | some c=>some (.p c) | none=>none
   | some (.gr _ _ l)=>cellR l i j
   | _=>none
  | _=>none
 | .ck n k=>match get s.t n with
  | some (.mp d i j)=>match get s.h d with
   | some (.row _ _ _ l)=>match l[i]? with
    | some c=>if j+k<=c.length then some (.p (.st ((c.drop j).take k)))else none
    | none=>none
   | _=>none
  | _=>none
 | .td _=>none
def manyS (s:St):List ARes->Option (List RV)
 | []=>some []
 | r::rs=>match oneS s r with
  | some x=>match manyS s rs with | some xs=>some (x::xs) | none=>none
  | none=>none
def allP:List RV->Option (List PV)
 | []=>some []
 | .p x::l=>match allP l with
  | some xs=>some (x::xs)
  | none=>none
 | _::_=>none
def finishS (fn:AFunc) (s:St):Option SV:=match fn.rs with
 | [.t n]=>get s.t n
 | [.ck n k]=>match get s.t n with
  | some (.mp d i j)=>match get s.h d with
   | some (.row _ _ _ l)=>match l[i]? with
    | some c=>if j+k<=c.length then some (.p (.st ((c.drop j).take k)))else none
    | none=>none
   | some (.gr _ _ l)=>match l[i]? with
    | some c=>if j+k<=c.length then some (.sst ((c.drop j).take k))else none
    | none=>none
   | _=>none
  | _=>none
 | [r]=>match oneS s r with | some x=>some x.sv | none=>none
 | rs=>match manyS s rs with
  | some xs=>match allP xs with
   | some ys=>some (.p (.tu ys))
   | none=>some (.stu xs)
  | none=>none
def entryS:Nat->List SV->List (Nat×SV)
 | _,[]=> []
 | n,x::xs=> (n,x)::entryS (n+1) xs
def startS (vs:List SV)(h:List (Nat×Ob)):St:= ⟨entryS 0 vs,put h 999999 (.pin (h.map fun q=>q.1))⟩
def leftS (n:Nat)(v:SV)(s:St):Option Ret:=match reach s.h 300 (List.range n++v.refs) []with
 | some R=>if R.take n=List.range n then some (.shr (v.mapr (pos R)) (subH s.h (pos R) R 0))else none
 | none=>none
def sameFz (h h':List (Nat×Ob)):Bool:=h.all fun q=>match q.2 with
 | .row _ _ a _=> (match get h' q.1 with | some (.row _ _ b _)=>a == b | _=>false)
 | _=>true
def newS (h:List (Nat×Ob))(v:SV)(s:St):Option Ret:=match reach s.h 300 (List.range h.length++v.refs) []with
 | some R=>if R.take h.length=List.range h.length/\sameFz h s.h=true then some (.shn (v.mapr (pos R)) (subH s.h (pos R) (R.drop h.length) h.length))else none
 | none=>none
def AOp.hard:AOp->Bool
 | .sto .. | .apps .. | .app .. | .cpy .. | .nxt .. | .cpyd .. | .cpyo .. | .ld1o .. | .sto1o .. | .stod .. | .mvs .. | .sbn .. | .sbw .. | .sbs .. | .inl .. | .inn .. | .inq .. | .cvs .. | .boxr .. | .alr .. | .ldr .. | .ldkr .. | .stor .. | .storf .. | .bldr .. | .bldrf .. | .ldrn .. | .ldkf .. | .far .. | .aar .. | .nkr .. | .nlq .. | .exr .. =>true
 | _=>false
def AOp.quiet:AOp->Bool
 | .ldr .. | .ldkr .. | .far .. | .aar .. | .nkr .. | .nlq .. | .exr .. =>true
 | _=>false
def AOp.ro:AOp->Bool
 | .inn .. | .inq .. | .boxr .. | .alr .. | .bldr .. | .bldrf .. =>true
 | o=> !o.hard||o.quiet
def ACode.ro:ACode->Bool
 | .reg ops _=>ops.all fun o=>o.o.ro
 | .regf _ _ _=>false
 | .seq a b=>a.ro&&b.ro
 | .ite _ a b=>a.ro&&b.ro
 | .blk _ a=>a.ro
 | .loop _ a=>a.ro
 | .loopc _ _=>false
 | _=>true
def entry:Nat->List PV->List (Nat×SV)
 | _,[]=> []
 | n,x::xs=> (n,.p x)::entry (n+1) xs
structure Env where
 ap:FuncId->Option AFunc
 ext:FuncId->List PV->Option Ret
 isExt:FuncId->Bool
mutual
def code (E:Env):Nat->ACode->St->Option (Out×St)
 | 0,_,_=>none
 | k+1,c,s=>match c with
  | .skip=>some (.nor,s)
  | .reg ops keep=>match steps (call E k) ops s with
   | some s'=>some (.nor,norm keep s')
   | none=>none
  | .regf ops keep fz=>match steps (call E k) ops (fz.foldl fz1 s)with
   | some s'=>some (.nor,norm keep s')
   | none=>none
  | .seq a b=>match code E k a s with
   | some (.nor,s')=>code E k b s'
   | r=>r
  | .ite x a b=>match x.ev s with
   | some (.p (.sc (.bool c)))=>if c then code E k a s else code E k b s
   | _=>none
  | .blk id a=>match code E k a s with
   | some (.ex i,s')=>if i=id then some (.nor,s')else some (.ex i,s')
   | r=>r
  | .loop keep a=>match code E k a (norm keep s)with
   | some (.nor,s')=>code E k (.loop keep a) s'
   | r=>r
  | .loopc keep a=>match code E k a (canon (norm keep s))with
   | some (.nor,s')=>code E k (.loopc keep a) s'
   | r=>r
  | .ex id=>some (.ex id,s)
  | .ret=>some (.ret,s)
def call (E:Env):Nat->FuncId->List PV->Option Ret
 | 0,_,_=>none
 | k +1,f,args =>
  if E.isExt f then E.ext f args else
  match E.ap f with
  | some fn=>if args.length=fn.np then
   match code E k fn.body ⟨entry 0 args,[]⟩with
   | some (.ex _,_)=>none
   | some (_,s)=>finish fn s
   | none=>none
   else none
  | none=>match args with
   | [.hp vs h]=>if 2000000<=f then
    match E.ap (f-2000000)with
    | some fn=>if vs.length=fn.np/\okK h 0=true/\h.length<=1000/\fn.body.ro=true then
     match code E k fn.body (startS vs h)with
     | some (.ex _,_)=>none
     | some (_,s)=>match finishS fn s with | some v=>newS h v s | none=>none
     | none=>none
     else none
    | none=>none
    else match E.ap (f-1000000)with
    | some fn=>if vs.length=fn.np/\okK h 0=true/\h.length<=1000 then
     match code E k fn.body (startS vs h)with
     | some (.ex _,_)=>none
     | some (_,s)=>match finishS fn s with | some v=>leftS h.length v s | none=>none
     | none=>none
     else none
    | none=>none
   | _=>none
end
end Go.Proofs.YtjpibniecllafaaGreat.AM
end
section
namespace Go.Proofs.YtjpibniecllafaaGreat.AM
open Go
theorem Tn9 (s:St)(d:Nat)(f:FuncId)(vs:List SV)(b:Bool): (∃ e,∀ c:Call,innE c s d f vs b=e)∨ (∃(f':FuncId) (ys:List PV) (g:Ret->Option Eff),∀ c:Call,innE c s d f vs b= (c f' ys).bind g):=by
 cases h2:reach s.h 300 (vs.flatMap SV.refs) []with
 | none=>exact .inl ⟨none,fun c=>by simp only[innE,h2]⟩
 | some R =>
  by_cases h3: (!b||noRow s.h R)=true
  · exact .inr ⟨f+2000000,[.hp (vs.map (·.mapr (pos R))) (subH s.h (pos R) R 0)],shnE s.h R d,fun c=>by simp only[innE,h2,if_pos h3]; cases c (f+2000000) [.hp (vs.map (·.mapr (pos R))) (subH s.h (pos R) R 0)]<;> rfl⟩
  · exact .inl ⟨none,fun c=>by simp only[innE,h2,if_neg h3]⟩
theorem Toa (s:St) (d:Nat) (o:AOp): (∃ e,∀ c,eff c s d o=e)∨ (∃(f:FuncId) (ys:List PV) (g:Ret->Option Eff),∀ c,eff c s d o= (c f ys).bind g):=by
 cases o
 case cl f l =>
  cases h1:evs s l with
  | none=>exact .inl ⟨none,fun c=>by simp only[eff,h1]⟩
  | some vs =>
   cases h2:frzs s.h vs with
   | none=>exact .inl ⟨none,fun c=>by simp only[eff,h1,h2]⟩
   | some q=>exact .inr ⟨f,q.1,ret1 s.h q.2 d,fun c=>by simp only[eff,h1,h2]; cases c f q.1<;> rfl⟩
 case cld f l =>
  cases h1:evs s l with
  | none=>exact .inl ⟨none,fun c=>by simp only[eff,h1]⟩
  | some vs =>
   cases h2:frzs s.h vs with
   | none=>exact .inl ⟨none,fun c=>by simp only[eff,h1,h2]⟩
   | some q=>exact .inr ⟨f,q.1,ret1d s.h q.2 d,fun c=>by simp only[eff,h1,h2]; cases c f q.1<;> rfl⟩
 case cv x l =>
  cases h0:x.ev s with
  | none=>exact .inl ⟨none,fun c=>by simp only[eff,h0]⟩
  | some v =>
   cases h1:evs s l with
   | none=>exact .inl ⟨none,fun c=>by simp only[eff,h0,h1]⟩
   | some vs =>
    cases v with
    | p y =>
     cases y with
     | fn f cs =>
      cases h2:frzs s.h vs with
      | none=>exact .inl ⟨none,fun c=>by simp only[eff,h0,h1,h2]⟩
      | some q=>exact .inr ⟨f,q.1++cs,ret1 s.h q.2 d,fun c=>by simp only[eff,h0,h1,h2]; cases c f (q.1++cs)<;> rfl⟩
     | _=>exact .inl ⟨none,fun c=>by simp only[eff,h0,h1]⟩
    | _=>exact .inl ⟨none,fun c=>by simp only[eff,h0,h1]⟩
 case inv ty f m x l =>
  cases h0:x.ev s with
  | none=>exact .inl ⟨none,fun c=>by simp only[eff,h0]⟩
  | some v =>
   cases h1:evs s l with
   | none=>exact .inl ⟨none,fun c=>by simp only[eff,h0,h1]⟩
   | some vs =>
    cases v with
    | p y =>
     cases y with
     | ifc t' y =>
      by_cases ht:t'=ty
      · cases h2:frzs s.h vs with
        | none=>exact .inl ⟨none,fun c=>by simp only[eff,h0,h1,h2,ht,if_true]⟩
        | some q=>exact .inr ⟨f,y::q.1,ret1 s.h q.2 d,fun c=>by simp only[eff,h0,h1,h2,ht,if_true]; cases c f (y::q.1)<;> rfl⟩
      · exact .inl ⟨none,fun c=>by simp only[eff,h0,h1,ht,if_false]⟩
     | _=>exact .inl ⟨none,fun c=>by simp only[eff,h0,h1]⟩
    | _=>exact .inl ⟨none,fun c=>by simp only[eff,h0,h1]⟩
 case sbw f x y=>exact .inr ⟨f,[],sbwE s x y,fun c=>by simp only[eff]; cases c f []<;> rfl⟩
 case sbs f x=>exact .inr ⟨f,[],sbsE s x,fun c=>by simp only[eff]; cases c f []<;> rfl⟩
 case inl f l =>
  cases h1:evs s l with
  | none=>exact .inl ⟨none,fun c=>by simp only[eff,h1]⟩
  | some vs =>
   cases h2:reach s.h 300 (vs.flatMap SV.refs) []with
   | none=>exact .inl ⟨none,fun c=>by simp only[eff,h1,inlE,h2]⟩
   | some R=>exact .inr ⟨f+1000000,[.hp (vs.map (·.mapr (pos R))) (subH s.h (pos R) R 0)],shrE s.h R d,fun c=>by simp only[eff,h1,inlE,h2]; cases c (f+1000000) [.hp (vs.map (·.mapr (pos R))) (subH s.h (pos R) R 0)]<;> rfl⟩
 case inn f l =>
  cases h1:evs s l with
  | none=>exact .inl ⟨none,fun c=>by simp only[eff,h1]⟩
  | some vs=>simp only[eff,h1]; exact Tn9 s d f vs true
 case inq f l =>
  cases h1:evs s l with
  | none=>exact .inl ⟨none,fun c=>by simp only[eff,h1]⟩
  | some vs=>simp only[eff,h1]; exact Tn9 s d f vs false
 case cvs x l =>
  have key:∀(f:FuncId) (us:List SV),(∃ e,∀ c:Call,inlE c s d f us=e)∨ (∃(f':FuncId) (ys:List PV) (g:Ret->Option Eff),∀ c:Call,inlE c s d f us= (c f' ys).bind g):=fun f us=>by
   cases h2:reach s.h 300 (us.flatMap SV.refs) []with
   | none=>exact .inl ⟨none,fun c=>by simp only[inlE,h2]⟩
   | some R=>exact .inr ⟨f+1000000,[.hp (us.map (·.mapr (pos R))) (subH s.h (pos R) R 0)],shrE s.h R d,fun c=>by simp only[inlE,h2]; cases c (f+1000000) [.hp (us.map (·.mapr (pos R))) (subH s.h (pos R) R 0)]<;> rfl⟩
  cases h0:x.ev s with
  | none=>exact .inl ⟨none,fun c=>by simp only[eff,h0]⟩
  | some v =>
   cases h1:evs s l with
   | none=>exact .inl ⟨none,fun c=>by simp only[eff,h0,h1]⟩
   | some vs =>
    cases v with
    | p y =>
     cases y with
     | fn f cs=>simp only[eff,h0,h1]; exact key f _
     | _=>exact .inl ⟨none,fun c=>by simp only[eff,h0,h1]⟩
    | fnv f cs=>simp only[eff,h0,h1]; exact key f _
    | _=>exact .inl ⟨none,fun c=>by simp only[eff,h0,h1]⟩
 all_goals exact .inl ⟨_,fun c=>rfl⟩
def LeC (c c':Call):Prop:=∀ f a r,c f a=some r->c' f a=some r
theorem Twf {c c':Call}(h:LeC c c'){s:St}{d:Nat}{o:AOp}{e:Eff}(he:eff c s d o=some e):eff c' s d o=some e:=by
 rcases Toa s d o with⟨x,hx⟩ | ⟨f,ys,g,hx⟩
 · rw[hx]at he ⊢; exact he
 · rw[hx]at he ⊢
   cases hc:c f ys with
   | none=>rw[hc]at he; exact absurd he (by simp)
   | some r=>rw[hc]at he; rw[h _ _ _ hc]; exact he
theorem Tk6 {c c':Call}(h:LeC c c'){o:AOper}{s s':St}(hs:step c o s=some s'):step c' o s=some s':=by
 have key:∀ {x},(match eff c s (o.d.getD 0) o.o with | some e=>some (⟨puts s.t o.d e.v,putAll s.h e.hs⟩:St) | none=>none)=some x-> (match eff c' s (o.d.getD 0) o.o with | some e=>some (⟨puts s.t o.d e.v,putAll s.h e.hs⟩:St) | none=>none)=some x:=by
  intro x hx
  cases he:eff c s (o.d.getD 0) o.o with
  | none=>rw[he]at hx; exact absurd hx (by simp)
  | some e=>rw[he]at hx; rw[Twf h he]; exact hx
 unfold step at hs ⊢
 cases hg:o.g with
 | none=>simp only[hg]at hs ⊢; exact key hs
 | some gw =>
  obtain⟨g,w⟩:=gw
  simp only[hg]at hs ⊢
  cases hv:get s.t g with
  | none=>simp only[hv]at hs; exact absurd hs (by simp)
  | some v =>
   simp only[hv]at hs ⊢
   split at hs
   · split at hs
     · rename_i h1; rw[if_pos h1]; exact key hs
     · rename_i h1; rw[if_neg h1]; exact hs
   · exact hs
   · exact absurd hs (by simp)
theorem Tc3 {c c':Call}(h:LeC c c'):∀(os:List AOper) {s s':St},steps c os s=some s'->steps c' os s=some s'
 | [],_,_,hs=>hs
 | o::os,s,s',hs=>by
  simp only[steps]at hs ⊢
  cases h1:step c o s with
  | none=>rw[h1]at hs; exact absurd hs (by simp)
  | some s1=>rw[h1]at hs; rw[Tk6 h h1]; exact Tc3 h os hs
section
variable (E:Env)(k:Nat)
theorem Tsi (s:St):code E (k+1) .skip s=some (.nor,s):=rfl
theorem c_ex (id:Nat)(s:St):code E (k+1) (.ex id) s=some (.ex id,s):=rfl
theorem c_ret (s:St):code E (k+1) .ret s=some (.ret,s):=rfl
theorem c_reg (ops:List AOper)(keep:List Nat)(s:St):code E (k+1) (.reg ops keep) s=match steps (call E k) ops s with | some s'=>some (.nor,norm keep s') | none=>none:=rfl
theorem Tob (ops:List AOper)(keep fz:List Nat)(s:St):code E (k+1) (.regf ops keep fz) s=match steps (call E k) ops (fz.foldl fz1 s)with | some s'=>some (.nor,norm keep s') | none=>none:=rfl
theorem c_seq (a b:ACode)(s:St):code E (k+1) (.seq a b) s=match code E k a s with | some (.nor,s')=>code E k b s' | r=>r:=rfl
theorem c_ite (x:X)(a b:ACode)(s:St):code E (k+1) (.ite x a b) s=match x.ev s with | some (.p (.sc (.bool c)))=>if c then code E k a s else code E k b s | _=>none:=rfl
theorem c_blk (id:Nat)(a:ACode)(s:St):code E (k+1) (.blk id a) s=match code E k a s with | some (.ex i,s')=>if i=id then some (.nor,s')else some (.ex i,s') | r=>r:=rfl
theorem Tk7 (keep:List Nat)(a:ACode)(s:St):code E (k+1) (.loop keep a) s=match code E k a (norm keep s)with | some (.nor,s')=>code E k (.loop keep a) s' | r=>r:=rfl
theorem Tju (keep:List Nat)(a:ACode)(s:St):code E (k+1) (.loopc keep a) s=match code E k a (canon (norm keep s))with | some (.nor,s')=>code E k (.loopc keep a) s' | r=>r:=rfl
theorem Tel (f:FuncId)(args:List PV):call E (k+1) f args=if E.isExt f then E.ext f args else
 match E.ap f with
 | some fn=>if args.length=fn.np then
  match code E k fn.body ⟨entry 0 args,[]⟩with
  | some (.ex _,_)=>none
  | some (_,s)=>finish fn s
  | none=>none
  else none
 | none=>match args with
  | [.hp vs h]=>if 2000000<=f then
   match E.ap (f-2000000)with
   | some fn=>if vs.length=fn.np/\okK h 0=true/\h.length<=1000/\fn.body.ro=true then
    match code E k fn.body (startS vs h)with
    | some (.ex _,_)=>none
    | some (_,s)=>match finishS fn s with | some v=>newS h v s | none=>none
    | none=>none
    else none
   | none=>none
   else match E.ap (f-1000000)with
   | some fn=>if vs.length=fn.np/\okK h 0=true/\h.length<=1000 then
    match code E k fn.body (startS vs h)with
    | some (.ex _,_)=>none
    | some (_,s)=>match finishS fn s with | some v=>leftS h.length v s | none=>none
    | none=>none
    else none
   | none=>none
  | _=>none:=rfl
end
mutual
theorem Tg2 (E:Env):∀ k c s x,code E k c s=some x->code E (k+1) c s=some x
 | 0,_,_,_,h=>by simp[code]at h
 | k +1,c,s,x,h=>by
  have hc:LeC (call E k) (call E (k+1)):=fun f a r hr=>Tk8 E k f a r hr
  have ih:=Tg2 E k
  cases c with
  | skip=>exact h
  | ex id=>exact h
  | ret=>exact h
  | reg ops keep =>
   rw[c_reg]at h ⊢
   cases h1:steps (call E k) ops s with
   | none=>rw[h1]at h; exact absurd h (by simp)
   | some s'=>rw[h1]at h; rw[Tc3 hc ops h1]; exact h
  | regf ops keep fz =>
   rw[Tob]at h ⊢
   cases h1:steps (call E k) ops (fz.foldl fz1 s)with
   | none=>rw[h1]at h; exact absurd h (by simp)
   | some s'=>rw[h1]at h; rw[Tc3 hc ops h1]; exact h
  | seq a b =>
   rw[c_seq]at h ⊢
   cases h1:code E k a s with
   | none=>rw[h1]at h; exact absurd h (by simp)
   | some y =>
    rw[h1]at h; rw[ih _ _ _ h1]
    obtain⟨o,s'⟩:=y
    cases o with
    | nor=>exact ih _ _ _ h
    | _=>exact h
  | ite x a b =>
   rw[c_ite]at h ⊢
   split at h
   · split at h
     · rename_i h1; rw[if_pos h1]; exact ih _ _ _ h
     · rename_i h1; rw[if_neg h1]; exact ih _ _ _ h
   · exact absurd h (by simp)
  | blk id a =>
   rw[c_blk]at h ⊢
   cases h1:code E k a s with
   | none=>rw[h1]at h; exact absurd h (by simp)
   | some y=>rw[h1]at h; rw[ih _ _ _ h1]; exact h
  | loop keep a =>
   rw[Tk7]at h ⊢
   cases h1:code E k a (norm keep s)with
   | none=>rw[h1]at h; exact absurd h (by simp)
   | some y =>
    rw[h1]at h; rw[ih _ _ _ h1]
    obtain⟨o,s'⟩:=y
    cases o with
    | nor=>exact ih _ _ _ h
    | _=>exact h
  | loopc keep a =>
   rw[Tju]at h ⊢
   cases h1:code E k a (canon (norm keep s))with
   | none=>rw[h1]at h; exact absurd h (by simp)
   | some y =>
    rw[h1]at h; rw[ih _ _ _ h1]
    obtain⟨o,s'⟩:=y
    cases o with
    | nor=>exact ih _ _ _ h
    | _=>exact h
theorem Tk8 (E:Env):∀ k f a r,call E k f a=some r->call E (k+1) f a=some r
 | 0,_,_,_,h=>by simp[call]at h
 | k + 1, f,a,r,h=>by
  have ih:=Tg2 E k
  rw[Tel]at h ⊢
  split at h
  · rename_i h1; rw[if_pos h1]; exact h
  · rename_i h1; rw[if_neg h1]
    cases h2:E.ap f with
    | none =>
     simp only[h2]at h ⊢
     split at h
     · rename_i vs hh
       split at h
       · rename_i h9; rw[if_pos h9]
         cases h5:E.ap (f-2000000)with
         | none=>rw[h5]at h; exact absurd h (by simp)
         | some fn =>
          simp only[h5]at h ⊢
          split at h
          · rename_i h3; rw[if_pos h3]
            cases h4:code E k fn.body (startS vs hh)with
            | none=>rw[h4]at h; exact absurd h (by simp)
            | some y=>rw[h4]at h; rw[ih _ _ _ h4]; exact h
          · exact absurd h (by simp)
       · rename_i h9; rw[if_neg h9]
         cases h5:E.ap (f-1000000)with
         | none=>rw[h5]at h; exact absurd h (by simp)
         | some fn =>
          simp only[h5]at h ⊢
          split at h
          · rename_i h3; rw[if_pos h3]
            cases h4:code E k fn.body (startS vs hh)with
            | none=>rw[h4]at h; exact absurd h (by simp)
            | some y=>rw[h4]at h; rw[ih _ _ _ h4]; exact h
          · exact absurd h (by simp)
     · exact absurd h (by simp)
    | some fn =>
     simp only[h2]at h ⊢
     split at h
     · rename_i h3; rw[if_pos h3]
       cases h4:code E k fn.body ⟨entry 0 a,[]⟩with
       | none=>rw[h4]at h; exact absurd h (by simp)
       | some y=>rw[h4]at h; rw[ih _ _ _ h4]; exact h
     · exact absurd h (by simp)
end
theorem Tdv (E:Env){k m:Nat}(hkm:k<=m){c s x}(h:code E k c s=some x):code E m c s=some x:=by
 induction hkm with
 | refl=>exact h
 | step _ ih=>exact Tg2 E _ _ _ _ ih
theorem Tjv (E:Env){k m:Nat}(hkm:k<=m){f a r}(h:call E k f a=some r):call E m f a=some r:=by
 induction hkm with
 | refl=>exact h
 | step _ ih=>exact Tk8 E _ _ _ _ ih
open Classical in
noncomputable def Code (E:Env)(c:ACode)(s:St):Option (Out×St):=if h:∃ k x,code E k c s=some x then some (Classical.choose (Classical.choose_spec h))else none
open Classical in
noncomputable def Run (E:Env)(f:FuncId)(a:List PV):Option Ret:=if h:∃ k x,call E k f a=some x then some (Classical.choose (Classical.choose_spec h))else none
theorem Tam (E:Env)(c:ACode)(s:St)(x:Out×St):Code E c s=some x↔∃ k,code E k c s=some x:=by
 unfold Code
 constructor
 · intro h
   split at h
   · rename_i hh
     have:=Classical.choose_spec (Classical.choose_spec hh)
     rw[oIj h]at this
     exact⟨_,this⟩
   · exact absurd h (by simp)
 · rintro⟨k,hk⟩
   have hh:∃ k x,code E k c s=some x:= ⟨k,x,hk⟩
   rw[dif_pos hh]
   have:=Classical.choose_spec (Classical.choose_spec hh)
   rcases Nat.le_total k (Classical.choose hh)with hl | hl
   · rw[← this,Tdv E hl hk]
   · rw[← hk,Tdv E hl this]
theorem Tdh (E:Env)(f:FuncId)(a:List PV)(r:Ret):Run E f a=some r↔∃ k,call E k f a=some r:=by
 unfold Run
 constructor
 · intro h
   split at h
   · rename_i hh
     have:=Classical.choose_spec (Classical.choose_spec hh)
     rw[oIj h]at this
     exact⟨_,this⟩
   · exact absurd h (by simp)
 · rintro⟨k,hk⟩
   have hh:∃ k x,call E k f a=some x:= ⟨k,r,hk⟩
   rw[dif_pos hh]
   have:=Classical.choose_spec (Classical.choose_spec hh)
   rcases Nat.le_total k (Classical.choose hh)with hl | hl
   · rw[← this,Tjv E hl hk]
   · rw[← hk,Tjv E hl this]
theorem Tb2 {α:Type}{a b:Option α}(h:∀ x,a=some x↔b=some x):a=b:=by
 cases a with
 | none=>cases b with
  | none=>rfl
  | some y=>exact((h y).2 rfl)
 | some x=>exact((h x).1 rfl).symm
theorem Tez (E:Env):∀(os:List AOper) (s s':St),steps (Run E) os s=some s'↔∃ k,steps (call E k) os s=some s':=by
 have e1:∀(s:St) (d:Nat) (o:AOp) e,eff (Run E) s d o=some e↔∃ k,eff (call E k) s d o=some e:=by
  intro s d o e
  rcases Toa s d o with⟨x,hx⟩ | ⟨f,ys,g,hx⟩
  · simp only[hx]; exact⟨fun h=> ⟨0,h⟩,fun⟨_,h⟩=>h⟩
  · simp only[hx]
    constructor
    · intro h
      cases hr:Run E f ys with
      | none=>rw[hr]at h; exact absurd h (by simp)
      | some r=>obtain⟨k,hk⟩:= (Tdh E f ys r).1 hr; rw[hr]at h; exact⟨k,by rw[hk]; exact h⟩
    · rintro⟨k,h⟩
      cases hr:call E k f ys with
      | none=>rw[hr]at h; exact absurd h (by simp)
      | some r=>rw[(Tdh E f ys r).2 ⟨k,hr⟩]; rw[hr]at h; exact h
 have hle:∀ k,LeC (call E k) (Run E):=fun k f a r h=> (Tdh E f a r).2 ⟨k,h⟩
 intro os
 induction os with
 | nil=>intro s s'; exact⟨fun h=> ⟨0,h⟩,fun⟨_,h⟩=>h⟩
 | cons o os ih =>
  intro s s'
  refine⟨fun h=> ?_,fun⟨k,h⟩=>Tc3 (hle k) _ h⟩
  simp only[steps]at h
  cases h1:step (Run E) o s with
  | none=>rw[h1]at h; exact absurd h (by simp)
  | some s1 =>
   rw[h1]at h
   obtain⟨k2,hk2⟩:= (ih s1 s').1 h
   have :∃ k,step (call E k) o s=some s1:=by
    have key:∀ {x},(match eff (Run E) s (o.d.getD 0) o.o with | some e=>some (⟨puts s.t o.d e.v,putAll s.h e.hs⟩:St) | none=>none)=some x->∃ k,(match eff (call E k) s (o.d.getD 0) o.o with | some e=>some (⟨puts s.t o.d e.v,putAll s.h e.hs⟩:St) | none=>none)=some x:=by
     intro x hx
     cases he:eff (Run E) s (o.d.getD 0) o.o with
     | none=>rw[he]at hx; exact absurd hx (by simp)
     | some e=>rw[he]at hx; obtain⟨k,hk⟩:= (e1 _ _ _ _).1 he; exact⟨k,by rw[hk]; exact hx⟩
    unfold step at h1 ⊢
    cases hg:o.g with
    | none=>simp only[hg]at h1 ⊢; exact key h1
    | some gw =>
     obtain⟨g,w⟩:=gw
     simp only[hg]at h1 ⊢
     cases hv:get s.t g with
     | none=>simp only[hv]at h1; exact absurd h1 (by simp)
     | some v =>
      simp only[hv]at h1 ⊢
      split at h1
      · split at h1
        · rename_i h2; simp only[if_pos h2]; exact key h1
        · rename_i h2; simp only[if_neg h2]; exact⟨0,h1⟩
      · exact⟨0,h1⟩
      · exact absurd h1 (by simp)
   obtain⟨k1,hk1⟩:=this
   refine⟨max k1 k2,?_⟩
   simp only[steps]
   rw[Tk6 (fun f a r h=>Tjv E (Nat.le_max_left k1 k2) h) hk1]
   exact Tc3 (fun f a r h=>Tjv E (Nat.le_max_right k1 k2) h) os hk2
section
variable (E:Env)
theorem Tg3 (s:St):Code E .skip s=some (.nor,s):= (Tam ..).2 ⟨1,rfl⟩
theorem Tzy (id:Nat)(s:St):Code E (.ex id) s=some (.ex id,s):= (Tam ..).2 ⟨1,rfl⟩
theorem Twg (s:St):Code E .ret s=some (.ret,s):= (Tam ..).2 ⟨1,rfl⟩
theorem Twh (ops:List AOper)(keep:List Nat)(s:St):Code E (.reg ops keep) s=match steps (Run E) ops s with | some s'=>some (.nor,norm keep s') | none=>none:=by
 refine Tb2 fun x=> ?_
 rw[Tam]
 constructor
 · rintro⟨k,h⟩
   cases k with
   | zero=>exact absurd h (by simp[code])
   | succ k =>
    rw[c_reg]at h
    cases h1:steps (call E k) ops s with
    | none=>rw[h1]at h; exact absurd h (by simp)
    | some s'=>rw[(Tez E ops s s').2 ⟨k,h1⟩]; rw[h1]at h; exact h
 · intro h
   cases h1:steps (Run E) ops s with
   | none=>rw[h1]at h; exact absurd h (by simp)
   | some s' =>
    obtain⟨k,hk⟩:= (Tez E ops s s').1 h1
    rw[h1]at h
    exact⟨k+1,by rw[c_reg]; rw[hk]; exact h⟩
theorem Tsj (ops:List AOper)(keep fz:List Nat)(s:St):Code E (.regf ops keep fz) s=match steps (Run E) ops (fz.foldl fz1 s)with | some s'=>some (.nor,norm keep s') | none=>none:=by
 refine Tb2 fun x=> ?_
 rw[Tam]
 constructor
 · rintro⟨k,h⟩
   cases k with
   | zero=>exact absurd h (by simp[code])
   | succ k =>
    rw[Tob]at h
    cases h1:steps (call E k) ops (fz.foldl fz1 s)with
    | none=>rw[h1]at h; exact absurd h (by simp)
    | some s'=>rw[(Tez E ops (fz.foldl fz1 s) s').2 ⟨k,h1⟩]; rw[h1]at h; exact h
 · intro h
   cases h1:steps (Run E) ops (fz.foldl fz1 s)with
   | none=>rw[h1]at h; exact absurd h (by simp)
   | some s' =>
    obtain⟨k,hk⟩:= (Tez E ops (fz.foldl fz1 s) s').1 h1
    rw[h1]at h
    exact⟨k+1,by rw[Tob]; rw[hk]; exact h⟩
theorem Twi (a b:ACode)(s:St):Code E (.seq a b) s=match Code E a s with | some (.nor,s')=>Code E b s' | r=>r:=by
 refine Tb2 fun x=> ?_
 rw[Tam]
 constructor
 · rintro⟨k,h⟩
   cases k with
   | zero=>exact absurd h (by simp[code])
   | succ k =>
    rw[c_seq]at h
    cases h1:code E k a s with
    | none=>rw[h1]at h; exact absurd h (by simp)
    | some y =>
     rw[(Tam E a s y).2 ⟨k,h1⟩]; rw[h1]at h
     obtain⟨o,s'⟩:=y
     cases o with
     | nor=>exact(Tam ..).2 ⟨k,h⟩
     | _=>exact h
 · intro h
   cases h1:Code E a s with
   | none=>rw[h1]at h; exact absurd h (by simp)
   | some y =>
    obtain⟨k1,hk1⟩:= (Tam E a s y).1 h1
    rw[h1]at h
    obtain⟨o,s'⟩:=y
    cases o with
    | nor =>
     obtain⟨k2,hk2⟩:= (Tam ..).1 h
     exact⟨max k1 k2+1,by rw[c_seq]; rw[Tdv E (Nat.le_max_left k1 k2) hk1]; exact Tdv E (Nat.le_max_right k1 k2) hk2⟩
    | _=>exact⟨k1+1,by rw[c_seq]; rw[hk1]; exact h⟩
theorem Twj (x:X)(a b:ACode)(s:St):Code E (.ite x a b) s=match x.ev s with | some (.p (.sc (.bool c)))=>if c then Code E a s else Code E b s | _=>none:=by
 refine Tb2 fun y=> ?_
 rw[Tam]
 constructor
 · rintro⟨k,h⟩
   cases k with
   | zero=>exact absurd h (by simp[code])
   | succ k =>
    rw[c_ite]at h
    split at h
    · split at h
      · rename_i h1; rw[if_pos h1]; exact(Tam ..).2 ⟨k,h⟩
      · rename_i h1; rw[if_neg h1]; exact(Tam ..).2 ⟨k,h⟩
    · exact absurd h (by simp)
 · intro h
   split at h
   · rename_i c hc
     split at h
     · rename_i h1; obtain⟨k,hk⟩:= (Tam ..).1 h; exact⟨k+1,by rw[c_ite,hc]; simp only[if_pos h1]; exact hk⟩
     · rename_i h1; obtain⟨k,hk⟩:= (Tam ..).1 h; exact⟨k+1,by rw[c_ite,hc]; simp only[if_neg h1]; exact hk⟩
   · exact absurd h (by simp)
theorem Twk (id:Nat)(a:ACode)(s:St):Code E (.blk id a) s=match Code E a s with | some (.ex i,s')=>if i=id then some (.nor,s')else some (.ex i,s') | r=>r:=by
 refine Tb2 fun x=> ?_
 rw[Tam]
 constructor
 · rintro⟨k,h⟩
   cases k with
   | zero=>exact absurd h (by simp[code])
   | succ k =>
    rw[c_blk]at h
    cases h1:code E k a s with
    | none=>rw[h1]at h; exact absurd h (by simp)
    | some y=>rw[(Tam E a s y).2 ⟨k,h1⟩]; rw[h1]at h; exact h
 · intro h
   cases h1:Code E a s with
   | none=>rw[h1]at h; exact absurd h (by simp)
   | some y =>
    obtain⟨k1,hk1⟩:= (Tam E a s y).1 h1
    rw[h1]at h
    exact⟨k1+1,by rw[c_blk]; rw[hk1]; exact h⟩
theorem Tsk (keep:List Nat)(a:ACode)(s:St):Code E (.loop keep a) s=match Code E a (norm keep s)with | some (.nor,s')=>Code E (.loop keep a) s' | r=>r:=by
 refine Tb2 fun x=> ?_
 rw[Tam]
 constructor
 · rintro⟨k,h⟩
   cases k with
   | zero=>exact absurd h (by simp[code])
   | succ k =>
    rw[Tk7]at h
    cases h1:code E k a (norm keep s)with
    | none=>rw[h1]at h; exact absurd h (by simp)
    | some y =>
     rw[(Tam E a _ y).2 ⟨k,h1⟩]; rw[h1]at h
     obtain⟨o,s'⟩:=y
     cases o with
     | nor=>exact(Tam ..).2 ⟨k,h⟩
     | _=>exact h
 · intro h
   cases h1:Code E a (norm keep s)with
   | none=>rw[h1]at h; exact absurd h (by simp)
   | some y =>
    obtain⟨k1,hk1⟩:= (Tam E a _ y).1 h1
    rw[h1]at h
    obtain⟨o,s'⟩:=y
    cases o with
    | nor =>
     obtain⟨k2,hk2⟩:= (Tam ..).1 h
     exact⟨max k1 k2+1,by rw[Tk7]; rw[Tdv E (Nat.le_max_left k1 k2) hk1]; exact Tdv E (Nat.le_max_right k1 k2) hk2⟩
    | _=>exact⟨k1+1,by rw[Tk7]; rw[hk1]; exact h⟩
theorem Tqn (keep:List Nat)(a:ACode)(s:St):Code E (.loopc keep a) s=match Code E a (canon (norm keep s))with | some (.nor,s')=>Code E (.loopc keep a) s' | r=>r:=by
 refine Tb2 fun x=> ?_
 rw[Tam]
 constructor
 · rintro⟨k,h⟩
   cases k with
   | zero=>exact absurd h (by simp[code])
   | succ k =>
    rw[Tju]at h
    cases h1:code E k a (canon (norm keep s))with
    | none=>rw[h1]at h; exact absurd h (by simp)
    | some y =>
     rw[(Tam E a _ y).2 ⟨k,h1⟩]; rw[h1]at h
     obtain⟨o,s'⟩:=y
     cases o with
     | nor=>exact(Tam ..).2 ⟨k,h⟩
     | _=>exact h
 · intro h
   cases h1:Code E a (canon (norm keep s))with
   | none=>rw[h1]at h; exact absurd h (by simp)
   | some y =>
    obtain⟨k1,hk1⟩:= (Tam E a _ y).1 h1
    rw[h1]at h
    obtain⟨o,s'⟩:=y
    cases o with
    | nor =>
     obtain⟨k2,hk2⟩:= (Tam ..).1 h
     exact⟨max k1 k2+1,by rw[Tju]; rw[Tdv E (Nat.le_max_left k1 k2) hk1]; exact Tdv E (Nat.le_max_right k1 k2) hk2⟩
    | _=>exact⟨k1+1,by rw[Tju]; rw[hk1]; exact h⟩
theorem T25 (f:FuncId)(fn:AFunc)(a:List PV)(he:E.isExt f=false)(hf:E.ap f=some fn)(ha:a.length=fn.np) :
 Run E f a=match Code E fn.body ⟨entry 0 a,[]⟩with | some (.ex _,_)=>none | some (_,s)=>finish fn s | none=>none:=by
 refine Tb2 fun r=> ?_
 rw[Tdh]
 constructor
 · rintro⟨k,h⟩
   cases k with
   | zero=>exact absurd h (by simp[call])
   | succ k =>
    rw[Tel]at h; simp only[he,hf,ha,if_true,Bool.false_eq_true,if_false]at h
    cases h1:code E k fn.body ⟨entry 0 a,[]⟩with
    | none=>rw[h1]at h; exact absurd h (by simp)
    | some y=>rw[(Tam ..).2 ⟨k,h1⟩]; rw[h1]at h; exact h
 · intro h
   cases h1:Code E fn.body ⟨entry 0 a,[]⟩with
   | none=>rw[h1]at h; exact absurd h (by simp)
   | some y =>
    obtain⟨k,hk⟩:= (Tam ..).1 h1
    rw[h1]at h
    exact⟨k+1,by rw[Tel]; simp only[he,hf,ha,if_true,Bool.false_eq_true,if_false]; rw[hk]; exact h⟩
theorem Tzz (f:FuncId)(fn:AFunc)(vs:List SV)(h:List (Nat×Ob))(h1:f<1000000)(he:E.isExt (f+1000000)=false)(hn:E.ap (f+1000000)=none)(hf:E.ap f=some fn)(ha:vs.length=fn.np)(hp:okK h 0=true)(hl:h.length<=1000) :
 Run E (f+1000000) [.hp vs h]=match Code E fn.body (startS vs h)with | some (.ex _,_)=>none | some (_,s)=> (match finishS fn s with | some v=>leftS h.length v s | none=>none) | none=>none:=by
 have hs:f+1000000-1000000=f:=Nat.add_sub_cancel f 1000000
 have h9:¬ 2000000<=f+1000000:=Nat.not_le.2 (Nat.add_lt_add_right h1 1000000)
 refine Tb2 fun r=> ?_
 rw[Tdh]
 constructor
 · rintro⟨k,h⟩
   cases k with
   | zero=>exact absurd h (by simp[call])
   | succ k =>
    rw[Tel]at h; simp only[he,hn,hs,hf,ha,hp,hl,and_self,if_true,Bool.false_eq_true,if_false,if_neg h9]at h
    cases h1:code E k fn.body (startS vs _)with
    | none=>rw[h1]at h; exact absurd h (by simp)
    | some y=>rw[(Tam ..).2 ⟨k,h1⟩]; rw[h1]at h; exact h
 · intro h
   cases h1:Code E fn.body (startS vs _)with
   | none=>rw[h1]at h; exact absurd h (by simp)
   | some y =>
    obtain⟨k,hk⟩:= (Tam ..).1 h1
    rw[h1]at h
    exact⟨k+1,by rw[Tel]; simp only[he,hn,hs,hf,ha,hp,hl,and_self,if_true,Bool.false_eq_true,if_false,if_neg h9]; rw[hk]; exact h⟩
theorem Tz0 (f:FuncId)(fn:AFunc)(vs:List SV)(h:List (Nat×Ob))(he:E.isExt (f+2000000)=false)(hn:E.ap (f+2000000)=none)(hf:E.ap f=some fn)(ha:vs.length=fn.np)(hp:okK h 0=true)(hl:h.length<=1000)(hr:fn.body.ro=true) :
 Run E (f+2000000) [.hp vs h]=match Code E fn.body (startS vs h)with | some (.ex _,_)=>none | some (_,s)=> (match finishS fn s with | some v=>newS h v s | none=>none) | none=>none:=by
 have hs:f+2000000-2000000=f:=Nat.add_sub_cancel f 2000000
 have h9:2000000<=f+2000000:=Nat.le_add_left _ _
 refine Tb2 fun r=> ?_
 rw[Tdh]
 constructor
 · rintro⟨k,h⟩
   cases k with
   | zero=>exact absurd h (by simp[call])
   | succ k =>
    rw[Tel]at h; simp only[he,hn,hs,hf,ha,hp,hl,hr,and_self,if_true,Bool.false_eq_true,if_false,if_pos h9]at h
    cases h1:code E k fn.body (startS vs _)with
    | none=>rw[h1]at h; exact absurd h (by simp)
    | some y=>rw[(Tam ..).2 ⟨k,h1⟩]; rw[h1]at h; exact h
 · intro h
   cases h1:Code E fn.body (startS vs _)with
   | none=>rw[h1]at h; exact absurd h (by simp)
   | some y =>
    obtain⟨k,hk⟩:= (Tam ..).1 h1
    rw[h1]at h
    exact⟨k+1,by rw[Tel]; simp only[he,hn,hs,hf,ha,hp,hl,hr,and_self,if_true,Bool.false_eq_true,if_false,if_pos h9]; rw[hk]; exact h⟩
theorem Tb3 (f:FuncId)(a:List PV)(he:E.isExt f=true):Run E f a=E.ext f a:=by
 refine Tb2 fun r=> ?_
 rw[Tdh]
 constructor
 · rintro⟨k,h⟩
   cases k with
   | zero=>exact absurd h (by simp[call])
   | succ k=>rw[Tel,if_pos he]at h; exact h
 · intro h
   exact⟨1,by rw[Tel,if_pos he]; exact h⟩
end
end Go.Proofs.YtjpibniecllafaaGreat.AM
end
section
namespace Go.Proofs.YtjpibniecllafaaGreat.AM
open Go Go.RowKit Go.Maps
def keyL (l:List Int):DataW Unit:= .map (l.map fun n=> (Lit.int .i64 n,.agg []))
def Grp (l:List Int):Prop:=l.Pairwise (· < ·)/\∀ x∈l,0<=x/\x<60
def insS (g:Int):List Int->List Int
 | []=> [g]
 | x::l=>if g<x then g::x::l else if g=x then x::l else x::insS g l
def delS (g:Int)(l:List Int):List Int:=l.filter fun x=>decide (x≠g)
theorem Toc (x g:Int): (Lit.int .i64 x).sameKey (.int .i64 g)=decide (x=g):=by simp[Lit.sameKey]
theorem Tjw (l:List Int)(g:Int):Maps.has (keyL l) (.int .i64 g)=decide (g∈l):=by
 unfold keyL
 rw[Maps.has_eq]
 induction l with
 | nil=>rfl
 | cons x l ih =>
  rw[List.map_cons,List.any_cons,ih,Toc,← Bool.decide_or]
  exact decide_eq_decide.2 (by rw[List.mem_cons]; exact or_congr eq_comm Iff.rfl)
theorem Te0 (l:List Int):Maps.size (keyL l)=l.length:=by
 unfold keyL
 rw[Maps.size_eq,List.length_map]
theorem Tiq (l:List Int)(g:Int): ((l.map fun n=> (Lit.int .i64 n,(.agg []:DataW Unit))).filter fun p=> !p.1.sameKey (.int .i64 g))= (delS g l).map fun n=> (Lit.int .i64 n,.agg []):=by
 unfold delS
 induction l with
 | nil=>rfl
 | cons x l ih =>
  rw[List.map_cons,List.filter_cons,List.filter_cons,ih,Toc]
  by_cases h:x=g<;> simp[h]
theorem Twl (l:List Int)(g:Int): (keyL l).del (.int .i64 g)=keyL (delS g l):=by
 have e: ((l.map fun n=> (Lit.int .i64 n,(.agg []:DataW Unit))).filter fun p=> !p.1.sameKey (.int .i64 g))= (delS g l).map fun n=> (Lit.int .i64 n,.agg []):=Tiq l g
 unfold keyL DataW.del
 dsimp only
 rw[e]
theorem Tk9 {l:List Int}{g:Int}(h:∀ x∈l,x≠g):delS g l=l:=by
 unfold delS
 rw[List.filter_eq_self]
 intro x hx
 exact decide_eq_true (h x hx)
theorem Tg4 (g:Int):∀ l:List Int,l.Pairwise (· < ·)->DataW.insert (Lit.int .i64 g,(.agg []:DataW Unit)) ((delS g l).map fun n=> (Lit.int .i64 n,.agg []))= (insS g l).map fun n=> (Lit.int .i64 n,.agg [])
 | [],_=>rfl
 | x ::l,h=>by
  obtain⟨h1,h2⟩:=List.pairwise_cons.1 h
  unfold insS
  by_cases c1:g<x
  · rw[if_pos c1,Tk9 (fun y hy=>by
     rcases List.mem_cons.1 hy with rfl | hy
     · omega
     · have:=h1 y hy; omega)]
    simp[DataW.insert,Lit.before,c1]
  rw[if_neg c1]
  by_cases c2:g=x
  · rw[if_pos c2]
    subst c2
    have e:delS g (g::l)=l:=by
     unfold delS
     rw[List.filter_cons,if_neg (by simp)]
     exact Tk9 (fun y hy=>by have:=h1 y hy; omega)
    rw[e]
    cases l with
    | nil=>rfl
    | cons y l =>
     have:=h1 y (by simp)
     simp[DataW.insert,Lit.before,this]
  · rw[if_neg c2]
    have e:delS g (x::l)=x::delS g l:=by
     unfold delS
     rw[List.filter_cons,if_pos (by simp; omega)]
    rw[e,List.map_cons,List.map_cons,DataW.insert,if_neg (by simp[Lit.before]; omega),Tg4 g l h2]
theorem Twm (l:List Int)(h:l.Pairwise (· < ·))(g:Int): (keyL l).put (.int .i64 g) (.agg [])=keyL (insS g l):=by
 have e:=Tiq l g
 unfold keyL DataW.put
 dsimp only
 rw[e,Tg4 g l h]
theorem Tod {g x:Int}{l:List Int}:x∈insS g l↔x=g∨x∈l:=by
 induction l with
 | nil=>simp[insS]
 | cons y l ih =>
  unfold insS
  split
  · simp
  · split
    · rename_i h; subst h; simp
    · rw[List.mem_cons,ih,List.mem_cons]
      exact⟨fun h=>by rcases h with h | h | h<;> simp[h],fun h=>by rcases h with h | h | h<;> simp[h]⟩
theorem Grp.ins {l:List Int} (h:Grp l) {g:Int} (h0:0<=g) (h1:g<60):Grp (insS g l):=by
 refine⟨?_,fun x hx=> ?_⟩
 · have hp:=h.1
   clear h
   induction l with
   | nil=>simp[insS]
   | cons y l ih =>
    obtain⟨a,b⟩:=List.pairwise_cons.1 hp
    unfold insS
    split
    · rename_i c
      exact List.pairwise_cons.2 ⟨fun z hz=>by
       rcases List.mem_cons.1 hz with rfl | hz
       · exact c
       · have:=a z hz; omega,hp⟩
    · split
      · exact hp
      · refine List.pairwise_cons.2 ⟨fun z hz=> ?_,ih b⟩
        rcases Tod.1 hz with rfl | hz
        · omega
        · exact a z hz
 · rcases Tod.1 hx with rfl | hx
   · exact⟨h0,h1⟩
   · exact h.2 x hx
theorem Grp.del {l:List Int}(h:Grp l)(g:Int):Grp (delS g l):= ⟨h.1.filter _,fun x hx=>h.2 x (List.mem_filter.1 hx).1⟩
theorem Grp.nil:Grp []:= ⟨List.Pairwise.nil,fun x hx=>by simp at hx⟩
theorem Tir:∀(l:List Int) (a:Int),l.Pairwise (· < ·)-> (∀ x∈l,a<=x/\x<60)->a<=60-> (l.length:Int)<=60-a
 | [],a,_,_,h=>by simp; omega
 | x::l,a,hp,hb,_=>by
  obtain⟨h1,h2⟩:=List.pairwise_cons.1 hp
  have hx:=hb x (by simp)
  have:=Tir l (x+1) h2 (fun y hy=> ⟨by have:=h1 y hy; omega,(hb y (by simp[hy])).2⟩) (by omega)
  rw[List.length_cons]; omega
theorem Grp.len {l:List Int}(h:Grp l):l.length<=60:=by
 have:=Tir l 0 h.1 h.2 (by omega)
 omega
def SetAt (w:World)(b:Nat)(l:List Int):Prop:=w.ownsMap (H:=Unit) Tryz.prog 3 unitElem b 60 (keyL l)/\Grp l
theorem tighten {w:World}{P:Program}{k:TypeId}{R:Value->Option (DataW Unit×List MemPlace)}{b n:Nat}{D:DataW Unit}(h:w.ownsMap P k R b n D):w.ownsMap P k R b (Maps.size D) D:=by
 obtain⟨es,clock,hb,F,hs,rfl⟩:=h
 exact⟨es,clock,hb,F,by rw[Maps.size_eq,length_read]; exact Nat.le_refl _,rfl⟩
theorem SetAt.of {w:World}{b n:Nat}{l:List Int}(h:w.ownsMap (H:=Unit) Tryz.prog 3 unitElem b n (keyL l))(hg:Grp l):SetAt w b l:=by
 have:=tighten h
 rw[Te0]at this
 exact⟨this.mono hg.len,hg⟩
theorem SetAt.lt {w:World}{b:Nat}{l:List Int}(h:SetAt w b l):b<w.heap.size:=h.1.lt
theorem SetAt.keep {w w':World}{b:Nat}{l:List Int}(h:SetAt w b l)(hb:w'.heap[b]?=w.heap[b]?):SetAt w' b l:=by
 obtain⟨⟨es,clock,h1,F,hs,hD⟩,hg⟩:=h
 exact⟨⟨es,clock,hb.trans h1,F,hs,hD⟩,hg⟩
theorem Tck (g:Int)(h0: -9223372036854775808<=g)(h1:g<=9223372036854775807):keyOf Tryz.prog 3 (.int .i64 g)=some (.int .i64 g) :=
 keyOf_int_mk Tryz.underlying3 (by simp only[Lit.wf,Bool.and_eq_true,decide_eq_true_eq]; exact⟨h0,h1⟩)
theorem Tbl:Keyed Tryz.prog 3:=int_keyed Tryz.underlying3
end Go.Proofs.YtjpibniecllafaaGreat.AM
end
section
namespace Go.Proofs.YtjpibniecllafaaGreat.AM
open Go Go.RowKit
def Mem (w:World)(lm:Nat->Nat)(b o:Nat)(vs:List Value):Prop :=
 ∀ j u,vs[j]?=some u->w.cell? ⟨b,o+j,none⟩=some u/\o+j<lm b/\u.oneCell'=true
mutual
inductive Rep (w:World) (lm:Nat->Nat):PV->Value->Prop
 | sc (v:Value):Rep w lm (.sc v) v
 | st {l vs}:RepL w lm l vs-> (∀ u∈vs,u.oneCell'=true)->Rep w lm (.st l) (.agg vs.toArray)
 | tu {l vs}:RepL w lm l vs->Rep w lm (.tu l) (.tuple vs.toArray)
 | pt {l vs b o}:RepL w lm l vs->Mem w lm b o vs->Rep w lm (.pt l) (.pointer (some ⟨b,o,none⟩))
 | sl {k l vs b o cap}:0<k-> (∀ c∈l,c.length=k)->RepL w lm l.flatten vs->Mem w lm b o vs->l.length<=cap->Rep w lm (.sl k l) (.slice (some ⟨b,o,none⟩) l.length cap)
 | sl0 {k a cap}:Rep w lm (.sl k []) (.slice a 0 cap)
 | fn {f l vs}:RepL w lm l vs->Rep w lm (.fn f l) (.func (.func f) #[] vs.toArray)
 | ifc {t x v}:Rep w lm x v->Rep w lm (.ifc t x) (.iface t v)
 | ow {e k l v}:Rep w lm (.ow e k l) v
 | ma {l b}:SetAt w b l->0<lm b->Rep w lm (.ma l) (.map (some b))
inductive RepL (w:World) (lm:Nat->Nat):List PV->List Value->Prop
 | nil:RepL w lm [] []
 | cons {x v l vs}:Rep w lm x v->RepL w lm l vs->RepL w lm (x::l) (v::vs)
end
structure Ext (w:World) (lm:Nat->Nat) (w':World) (lm':Nat->Nat):Prop where
 ce:∀ b o u,w.cell? ⟨b,o,none⟩=some u->o<lm b->w'.cell? ⟨b,o,none⟩=some u/\o<lm' b
 mp:∀ b es clock,w.heap[b]?=some (.map es clock)->0<lm b->w'.heap[b]?=some (.map es clock)/\0<lm' b
theorem Ext.refl (w:World)(lm:Nat->Nat):Ext w lm w lm:= ⟨fun _ _ _ h h'=> ⟨h,h'⟩,fun _ _ _ h h'=> ⟨h,h'⟩⟩
theorem Ext.trans {w lm w' lm' w'' lm''}(h:Ext w lm w' lm')(k:Ext w' lm' w'' lm''):Ext w lm w'' lm'':= ⟨fun b o u a c=>let⟨x,y⟩:=h.ce b o u a c; k.ce b o u x y,fun b es clock a c=>let⟨x,y⟩:=h.mp b es clock a c; k.mp b es clock x y⟩
theorem Ext.blocks {w lm w' lm'}(h:∀ b,b<w.heap.size->0<lm b->w'.heap[b]?=w.heap[b]?/\lm' b=lm b):Ext w lm w' lm':=by
 refine⟨fun b o u hc ho=> ?_,fun b es clock hm h0=> ?_⟩
 · have hlt:b<w.heap.size:=by
    rcases Nat.lt_or_ge b w.heap.size with h' | h'
    · exact h'
    · simp[World.cell?,Array.getElem?_eq_none h']at hc
   obtain⟨x,y⟩:=h b hlt (by omega)
   exact⟨(World.cell?_of_block (a:= ⟨b,o,none⟩) x).trans hc,by rw[y]; exact ho⟩
 · obtain⟨x,y⟩:=h b (Array.getElem?_eq_some_iff.1 hm).1 h0
   exact⟨x.trans hm,by rw[y]; exact h0⟩
theorem SetAt.ext {w lm w' lm'}(h:Ext w lm w' lm'){b:Nat}{l:List Int}(m:SetAt w b l)(hb:0<lm b):SetAt w' b l/\0<lm' b:=by
 obtain⟨⟨es,clock,h1,F,hs,hD⟩,hg⟩:=m
 obtain⟨x,y⟩:=h.mp b es clock h1 hb
 exact⟨⟨⟨es,clock,x,F,hs,hD⟩,hg⟩,y⟩
theorem Mem.ext {w lm w' lm'}(h:Ext w lm w' lm'){b o vs}(m:Mem w lm b o vs):Mem w' lm' b o vs:=fun j u hu =>
 let⟨x,y,z⟩:=m j u hu; let⟨p,q⟩:=h.ce b (o+j) u x y; ⟨p,q,z⟩
mutual
theorem Rep.ext {w lm w' lm'}(h:Ext w lm w' lm'):∀ {x v},Rep w lm x v->Rep w' lm' x v
 | _,_,.sc v=> .sc v
 | _,_,.st a o=> .st (RepL.ext h a) o
 | _,_,.tu a=> .tu (RepL.ext h a)
 | _,_,.pt a m=> .pt (RepL.ext h a) (m.ext h)
 | _,_,.sl h0 hk a m hc=> .sl h0 hk (RepL.ext h a) (m.ext h) hc
 | _,_,.sl0=> .sl0
 | _,_,.fn a=> .fn (RepL.ext h a)
 | _,_,.ifc a=> .ifc (Rep.ext h a)
 | _,_,.ow=> .ow
 | _,_,.ma m hb=>let⟨x,y⟩:=m.ext h hb; .ma x y
theorem RepL.ext {w lm w' lm'}(h:Ext w lm w' lm'):∀ {l vs},RepL w lm l vs->RepL w' lm' l vs
 | _,_,.nil=> .nil
 | _,_,.cons a b=> .cons (Rep.ext h a) (RepL.ext h b)
end
theorem RepL.length {w lm}:∀ {l vs},RepL w lm l vs->l.length=vs.length
 | _,_,.nil=>rfl
 | _,_,.cons _ b=>by simp[RepL.length b]
theorem RepL.get {w lm}:∀ {l vs},RepL w lm l vs->∀(i:Nat) (x:PV),l[i]?=some x->∃ v,vs[i]?=some v/\Rep w lm x v
 | _,_,.nil,i,x,h=>by simp at h
 | _,_,.cons a b,0,x,h=>by simp at h; subst h; exact⟨_,rfl,a⟩
 | _,_,.cons a b,i+1,x,h=>by simpa using RepL.get b i x (by simpa using h)
theorem RepL.drop {w lm}:∀ {l vs},RepL w lm l vs->∀ n,RepL w lm (l.drop n) (vs.drop n)
 | _,_,h,0=>h
 | _,_,.nil,n+1=> .nil
 | _,_,.cons a b,n+1=>RepL.drop b n
theorem RepL.take {w lm}:∀ {l vs},RepL w lm l vs->∀ n,RepL w lm (l.take n) (vs.take n)
 | _,_,h,0=> .nil
 | _,_,.nil,n+1=> .nil
 | _,_,.cons a b,n+1=> .cons a (RepL.take b n)
theorem RepL.append {w lm}:∀ {l vs},RepL w lm l vs->∀ {m us},RepL w lm m us->RepL w lm (l++m) (vs++us)
 | _,_,.nil,_,_,h=>h
 | _,_,.cons a b,_,_,h=> .cons a (RepL.append b h)
theorem RepL.one {w lm x v}(h:Rep w lm x v):RepL w lm [x] [v]:= .cons h .nil
theorem Rep.cells {w lm x v c}(h:Rep w lm x v)(hx:x.cells=some c):RepL w lm c v.cells.toList/\∀ u∈v.cells.toList,u.oneCell'=true:=by
 have one:∀ {y u},Rep w lm y u->u.cells= #[u]->u.oneCell'=true->some [y]=some c->RepL w lm c u.cells.toList/\∀ z∈u.cells.toList,z.oneCell'=true:=by
  intro y u hr hc h1 he
  obtain rfl:=oIj he
  rw[hc]
  exact⟨.one hr,fun z hz=>by simp at hz; rw[hz]; exact h1⟩
 cases h with
 | sc v=>cases v<;> first | exact one (.sc _) rfl rfl hx | (simp[PV.cells]at hx)
 | st a o=>obtain rfl:=oIj hx; exact⟨by simpa[Value.cells]using a,by simpa[Value.cells]using o⟩
 | tu a=>simp[PV.cells]at hx
 | pt a m=>exact one (.pt a m) rfl rfl hx
 | sl h0 hk a m hc=>exact one (.sl h0 hk a m hc) rfl rfl hx
 | sl0=>exact one .sl0 rfl rfl hx
 | fn a=>exact one (.fn a) rfl rfl hx
 | ifc a=>exact one (.ifc a) rfl rfl hx
 | ow=>simp[PV.cells]at hx
 | ma m hb=>exact one (.ma m hb) rfl rfl hx
theorem Tap {k:Nat}:∀ {l:List (List PV)},(∀ c∈l,c.length=k)->l.flatten.length=l.length*k
 | [],_=>by simp
 | c::l,h=>by
  have:=Tap (l:=l) (fun c hc=>h c (by simp[hc]))
  simp[List.flatten_cons,this,h c (by simp),Nat.add_mul]; omega
theorem Tat {k:Nat}:∀ {l:List (List PV)} (n:Nat),(∀ c∈l,c.length=k)->l.flatten.drop (n*k)= (l.drop n).flatten
 | l,0,_=>by simp
 | [],n+1,_=>by simp
 | c::l,n+1,h=>by
  have hc:c.length=k:=h c (by simp)
  have e: (n+1)*k=c.length+n*k:=by rw[Nat.add_mul,hc]; omega
  rw[e,List.flatten_cons,← List.drop_drop,List.drop_left,List.drop_succ_cons]
  exact Tat n (fun c hc=>h c (by simp[hc]))
theorem Tbz {k:Nat}:∀ {l:List (List PV)} (n:Nat),(∀ c∈l,c.length=k)->l.flatten.take (n*k)= (l.take n).flatten
 | l,0,_=>by simp
 | [],n+1,_=>by simp
 | c::l,n+1,h=>by
  have hc:c.length=k:=h c (by simp)
  have e: (n+1)*k=c.length+n*k:=by rw[Nat.add_mul,hc]; omega
  rw[e,List.flatten_cons,List.take_succ_cons,List.flatten_cons,List.take_append,List.take_of_length_le (by omega),Nat.add_sub_cancel_left,Tbz n (fun c hc=>h c (by simp[hc]))]
structure Gs where
 lm:Nat->Nat
 v:Nat->Value
def blk:Value->Option Nat
 | .slice (some a) _ _=>some a.block
 | .pointer (some a)=>some a.block
 | .map (some b)=>some b
 | _=>none
def QRep (w:World)(g:Gs)(h:Nat->Option Ob):RV->Value->Prop
 | .p x,u=>Rep w g.lm x u
 | .ms d off len,u=>match h d with
  | some (.row _ k _ l)=>off+len<=l.length/\ ((off=0/\len=l.length/\u=g.v d)∨¬ (off=0/\len=l.length)/\∃ a cap,u= .slice a len cap/\len<=cap/\ (len=0∨∃ b,blk (g.v d)=some b/\a=some ⟨b,off*k,none⟩))
  | some (.dp _ k l)=>off+len<=l.length/\ ((off=0/\len=l.length/\u=g.v d)∨¬ (off=0/\len=l.length)/\∃ a cap,u= .slice a len cap/\len<=cap/\ (len=0∨∃ b,blk (g.v d)=some b/\a=some ⟨b,off*k,none⟩))
  | some (.gr _ k l)=>off+len<=l.length/\ ((off=0/\len=l.length/\u=g.v d)∨¬ (off=0/\len=l.length)/\∃ a cap,u= .slice a len cap/\len<=cap/\ (len=0∨∃ b,blk (g.v d)=some b/\a=some ⟨b,off*k,none⟩))
  | some .dead=>True
  | _=>False
 | .mp d i j,u=>match h d with
  | some (.row _ k _ _)=>∃ b,blk (g.v d)=some b/\u= .pointer (some ⟨b,i*k+j,none⟩)
  | some (.it _ _)=>u=g.v d
  | some (.dp _ k _)=>∃ b,blk (g.v d)=some b/\u= .pointer (some ⟨b,i*k+j,none⟩)
  | some (.gr _ k _)=>∃ b,blk (g.v d)=some b/\u= .pointer (some ⟨b,i*k+j,none⟩)
  | some .dead=>True
  | _=>False
 | .mo d,u=>match h d with
  | some (.mpo ..)=>u=g.v d
  | some .dead=>True
  | _=>False
inductive QRepL (w:World) (g:Gs) (h:Nat->Option Ob):List RV->List Value->Prop
 | nil:QRepL w g h [] []
 | cons {x v l vs}:QRep w g h x v->QRepL w g h l vs->QRepL w g h (x::l) (v::vs)
def SRep (w:World)(g:Gs)(h:Nat->Option Ob):SV->Value->Prop
 | .p x,u=>Rep w g.lm x u
 | .xs k l,u=>∃ a,u= .slice a l.length l.length/\0<k/\ (∀ c∈l,c.length=k)/\ (l= []∨∃ b o vs,a=some ⟨b,o,none⟩/\RepL w g.lm l.flatten vs/\Mem w g.lm b o vs)
 | .ms d off len,u=>match h d with
  | some (.row _ k _ l)=>off+len<=l.length/\ ((off=0/\len=l.length/\u=g.v d)∨¬ (off=0/\len=l.length)/\∃ a cap,u= .slice a len cap/\len<=cap/\ (len=0∨∃ b,blk (g.v d)=some b/\a=some ⟨b,off*k,none⟩))
  | some (.dp _ k l)=>off+len<=l.length/\ ((off=0/\len=l.length/\u=g.v d)∨¬ (off=0/\len=l.length)/\∃ a cap,u= .slice a len cap/\len<=cap/\ (len=0∨∃ b,blk (g.v d)=some b/\a=some ⟨b,off*k,none⟩))
  | some (.gr _ k l)=>off+len<=l.length/\ ((off=0/\len=l.length/\u=g.v d)∨¬ (off=0/\len=l.length)/\∃ a cap,u= .slice a len cap/\len<=cap/\ (len=0∨∃ b,blk (g.v d)=some b/\a=some ⟨b,off*k,none⟩))
  | some .dead=>True
  | _=>False
 | .mp d i j,u=>match h d with
  | some (.row _ k _ _)=>∃ b,blk (g.v d)=some b/\u= .pointer (some ⟨b,i*k+j,none⟩)
  | some (.it _ _)=>u=g.v d
  | some (.dp _ k _)=>∃ b,blk (g.v d)=some b/\u= .pointer (some ⟨b,i*k+j,none⟩)
  | some (.gr _ k _)=>∃ b,blk (g.v d)=some b/\u= .pointer (some ⟨b,i*k+j,none⟩)
  | some .dead=>True
  | _=>False
 | .mo d,u=>match h d with
  | some (.mpo ..)=>u=g.v d
  | some .dead=>True
  | _=>False
 | .sst l,u=>∃ vs,u= .agg vs.toArray/\QRepL w g h l vs/\∀ x∈vs,x.oneCell'=true
 | .stu l,u=>∃ vs,u= .tuple vs.toArray/\QRepL w g h l vs
 | .fnv f l,u=>∃ vs,u= .func (.func f) #[] vs.toArray/\QRepL w g h l vs
def nid (d p:Nat):Nat:= (p+1)*1000000+d
def RowR (w:World)(g:Gs)(base x e k:Nat)(l:List (List PV)):Prop :=
 0<k/\ (∀ c∈l,c.length=k)/\ (∃ xs,w.ownsRow base e k (g.v x) l.length xs/\RepL w g.lm l.flatten xs/\∀ u∈xs,u.oneCell'=true)/\∀ b,blk (g.v x)=some b->g.lm b=0
def SelfR (w:World)(g:Gs)(d:Nat)(l:List (List PV)):Prop :=
 ∀ p,l.flatten[p]?=some (.ow 1 0 [])->∃ b,g.v d= .slice (some ⟨b,0,none⟩) l.length l.length/\ (w.cell? ⟨b,p,none⟩=some (.pointer none)∨w.cell? ⟨b,p,none⟩=some (.pointer (some ⟨b,p,none⟩)))
def MapAt (w:World)(g:Gs)(base x:Nat)(l:List Int):Prop:=∃ b,g.v x= .map (some b)/\base<=b/\SetAt w b l/\g.lm b=0
def RevAt (w:World)(g:Gs)(base d:Nat)(U:List (List Int))(fl:Int)(G F:List Int):Prop :=
 (1<=U.length/\0<=fl/\fl+U.length<=201) /\
 (∃ b,g.v d= .pointer (some ⟨b,0,none⟩)/\base<=b/\g.lm b=0/\w.heap[b]?=some (.cells #[g.v (nid d 0),.int .i64 fl,g.v (nid d 1),g.v (nid d 2)] 164 (0,0))) /\
 (∃ xs,w.ownsRow base 161 1 (g.v (nid d 0)) U.length xs/\∀ i u,xs[i]?=some u->u=g.v (nid d (3+i)))/\ (∀ b,blk (g.v (nid d 0))=some b->g.lm b=0) /\
 (∀ i l,U[i]?=some l->MapAt w g base (nid d (3+i)) l)/\MapAt w g base (nid d 1) G/\MapAt w g base (nid d 2) F
def ORep (w:World)(g:Gs)(base d:Nat):Ob->Prop
 | .row e k fz l=>0<k/\ (∀ c∈l,c.length=k)/\ (∃ xs,w.ownsRow base e k (g.v d) l.length xs/\RepL w g.lm l.flatten xs/\∀ u∈xs,u.oneCell'=true) /\
  ∀ b,blk (g.v d)=some b->g.lm b=if fz then l.length*k else 0
 | .it s pos=>∃ b,g.v d= .pointer (some ⟨b,0,none⟩)/\base<=b/\w.heap[b]?=some (.stringIter s pos)
 | .dp e k l=>0<k/\ (∀ c∈l,c.length=k)/\ (∃ xs,w.ownsRow base e k (g.v d) l.length xs/\RepL w g.lm l.flatten xs/\ (∀ u∈xs,u.oneCell'=true) /\
  ∀ p e' k' l',l.flatten[p]?=some (.ow e' k' l')->0<k'->xs[p]?=some (g.v (nid d p))/\RowR w g base (nid d p) e' k' l') /\
  (∀ b,blk (g.v d)=some b->g.lm b=0)/\SelfR w g d l
 | .dead=>True
 | .gr e k l=>0<k/\ (∀ c∈l,c.length=k)/\ (∃ xs,w.ownsRow base e k (g.v d) l.length xs/\∀ u∈xs,u.oneCell'=true)/\∀ b,blk (g.v d)=some b->g.lm b=0
 | .mpo U fl G F=>RevAt w g base d U fl G F
 | .pin _=>True
def Ids (d:Nat)(o:Ob)(x:Nat):Prop:=x=d∨ (∃ e k l p e' k' l',o= .dp e k l/\l.flatten[p]?=some (.ow e' k' l')/\0<k'/\x=nid d p)∨∃ U fl G F p,o= .mpo U fl G F/\p<3+U.length/\x=nid d p
theorem Ids.self (d:Nat)(o:Ob):Ids d o d:= .inl rfl
theorem Ids.dp {d e k:Nat}{l:List (List PV)}{p e' k':Nat}{l':List (List PV)}(h:l.flatten[p]?=some (.ow e' k' l'))(hk:0<k'):Ids d (.dp e k l) (nid d p):= .inr (.inl ⟨e,k,l,p,e',k',l',rfl,h,hk,rfl⟩)
theorem Ids.mpo {d:Nat}{U:List (List Int)}{fl:Int}{G F:List Int}{p:Nat}(h:p<3+U.length):Ids d (.mpo U fl G F) (nid d p):= .inr (.inr ⟨U,fl,G,F,p,rfl,h,rfl⟩)
theorem Tc4 (d p:Nat):1000000<=nid d p:=by unfold nid; omega
theorem Tjx {d d' p p':Nat}(hd:d<1000000)(hd':d'<1000000)(h:nid d p=nid d' p'):d=d'/\p=p':=by unfold nid at h; omega
theorem Ids.dpE {d e k:Nat}{l:List (List PV)}{x:Nat}(h:Ids d (.dp e k l) x):x=d∨∃ p e' k' l',l.flatten[p]?=some (.ow e' k' l')/\0<k'/\x=nid d p:=by
 rcases h with h | ⟨_,_,_,p,e',k',l',h,h1,h2,h3⟩ | ⟨_,_,_,_,_,h,_⟩
 · exact .inl h
 · simp only[Ob.dp.injEq]at h
   obtain⟨rfl,rfl,rfl⟩:=h
   exact .inr ⟨p,e',k',l',h1,h2,h3⟩
 · simp at h
theorem Ids.form {d:Nat}{o:Ob}{x:Nat}(h:Ids d o x):x=d∨o.isDp=true/\∃ p,x=nid d p:=by
 rcases h with h | ⟨_,_,_,p,_,_,_,h,_,_,q⟩ | ⟨_,_,_,_,p,h,_,q⟩
 · exact .inl h
 · exact .inr ⟨by rw[h]; rfl,p,q⟩
 · exact .inr ⟨by rw[h]; rfl,p,q⟩
theorem Ids.lt {d:Nat}{o:Ob}{x:Nat}(h:Ids d o x)(hx:x<1000000):x=d:=by
 rcases h.form with h | ⟨_,p,h⟩
 · exact h
 · have:=Tc4 d p; omega
theorem Ids.mod {d:Nat}{o:Ob}{x:Nat}(h:Ids d o x)(hd:d<1000000):x % 1000000=d:=by
 rcases h.form with h | ⟨_,p,h⟩
 · subst h; omega
 · subst h; unfold nid; omega
theorem Ids.plain {d:Nat}{o:Ob}{x:Nat}(h:Ids d o x)(ho:o.isDp=false):x=d:=by
 rcases h.form with h | ⟨h,_⟩
 · exact h
 · rw[ho]at h; simp at h
structure L0 where
 f:Nat->Nat
 ov:SV->Value->Prop
 pl:Option (List Nat)
 kb:Nat->Prop
 wk:World
 lk:Nat->Nat
def L0.plain (w:World)(f:Nat->Nat):L0:= ⟨f,fun _ _=>False,none,fun _=>False,w,f⟩
instance:CoeFun L0 (fun _=>Nat->Nat):= ⟨L0.f⟩
def L0.K (l:L0)(b:Nat):Prop:=l.kb b/\b<l.wk.heap.size
def Free (g:Gs)(h:Nat->Option Ob)(b:Nat):Prop:=∀ d o x,h d=some o->o.live=true->Ids d o x->blk (g.v x)≠some b
structure Fr (lm0:L0) (g:Gs) (w:World) (h:Nat->Option Ob):Prop where
 ex:Ext lm0.wk lm0.lk w g.lm
 sz:lm0.wk.heap.size<=w.heap.size
 kf:∀ b,lm0.K b->w.heap[b]?=lm0.wk.heap[b]?/\g.lm b=lm0.lk b
 kd:∀ b,lm0.K b->Free g h b
structure Sim (base:Nat) (w0:World) (lm0:L0) (N:Nat) (g:Gs) (a:Act) (w:World) (s:St):Prop where
 bas:base=w0.heap.size
 size:a.tmps.size=N
 defers:a.defers= []
 below:Below base w0 w
 lm:∀ b,b<base->g.lm b=lm0 b
 tm:∀ n v,get s.t n=some v->∃ u,a.tmps[n]?=some u/\SRep w g (get s.h) v u
 ob:∀ d o,get s.h d=some o->ORep w g base d o
 lt:∀ d o,get s.h d=some o->d<1000000
 ap:∃ own:Nat->Nat,∀ d o x b,get s.h d=some o->o.live=true->Ids d o x->blk (g.v x)=some b->own b=x
 gs:∀ d e k l xs,get s.h d=some (.gr e k l)->w.ownsRow base e k (g.v d) l.length xs->QRepL w g (get s.h) l.flatten xs
 ov:∀ v u,lm0.ov v u->SRep w g (get s.h) v u
 pn:∀ v u,lm0.ov v u->∀ d,v.ref d=true->∃ l,lm0.pl=some l/\d∈l
 px:∀ l,lm0.pl=some l->get s.h 999999=some (.pin l)/\∀ d∈l,d=999999∨get s.h d≠none
 fr:Fr lm0 g w (get s.h)
theorem Tbf {α:Type}:∀(l:List (Nat×α)) (d e:Nat) (v:α),get (put l d v) e=if d=e then some v else get l e
 | [],d,e,v=>by simp[put,get]
 | (c,u)::l,d,e,v=>by
  simp only[put]
  split
  · rename_i h; subst h
    simp only[get]
    split<;> rfl
  · rename_i h
    split
    · simp only[get]
    · simp only[get,Tbf l d e v]
      split
      · rename_i h1 h2
        subst h2
        rw[if_neg (fun e=>h e.symm)]
      · rfl
theorem Tac {α:Type}(l:List (Nat×α))(d:Nat)(v:α):get (put l d v) d=some v:=by rw[Tbf,if_pos rfl]
theorem Tae {α:Type}(l:List (Nat×α)){d e:Nat}(h:d≠e)(v:α):get (put l d v) e=get l e:=by rw[Tbf,if_neg h]
theorem Tak (h:List (Nat×Ob)):∀(a b:List (Nat×Ob)),putAll h (a++b)=putAll (putAll h a) b
 | [],b=>rfl
 | (d,o)::a,b=>Tak (put h d o) a b
theorem Te1 {h:List (Nat×Ob)}:∀ {n d id:Nat},newIdN h n d=some id->get h id=none/\d<=id/\id<d+n*100000
 | 0,d,id,e=>by simp[newIdN]at e
 | n+1,d,id,e=>by
  unfold newIdN at e
  split at e
  · rename_i h1
    obtain rfl:=oIj e
    exact⟨h1,Nat.le_refl _,by omega⟩
  · obtain⟨a,b,c⟩:=Te1 e
    exact⟨a,by omega,by omega⟩
theorem Tay {h:List (Nat×Ob)}{d id:Nat}(e:newId h d=some id):get h id=none:=by
 unfold newId at e
 split at e
 · exact(Te1 e).1
 · simp at e
theorem Tbb {h:List (Nat×Ob)}{d id:Nat}(e:newId h d=some id):id<1000000:=by
 unfold newId at e
 split at e
 · have:= (Te1 e).2.2; omega
 · simp at e
end Go.Proofs.YtjpibniecllafaaGreat.AM
end
