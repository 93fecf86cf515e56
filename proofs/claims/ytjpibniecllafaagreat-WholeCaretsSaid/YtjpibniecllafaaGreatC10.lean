/- Made by pack.py: AXH, U, U2, AR0, AR1, AR2, AR3, AR4, AR5, AR6, AR7, RE1, AR8. No condition but what each says. -/
import Derived.Test.YtjpibniecllafaaGreatC9
import Derived.Test.YtjpibniecllafaaGreatC0
import Derived.Lib.RuneBytes
import Derived.Laws.BitsLemmas
import Derived.Lib.Strings
import Derived.Lib.DecodeN
set_option linter.unusedSimpArgs false
set_option linter.unusedVariables false
set_option maxHeartbeats 16000000
section
namespace Go.Proofs.YtjpibniecllafaaGreat.AM
open Go
attribute [simp] pinned newIdN Ob.live
@[simp] theorem Ob.ref_row {e k:Nat}{fz:Bool}{l:List (List PV)}{d:Nat}: (Ob.row e k fz l).ref d=false:=rfl
@[simp] theorem Ob.ref_it {s:ByteArray}{p d:Nat}: (Ob.it s p).ref d=false:=rfl
@[simp] theorem Ob.ref_dp {e k:Nat}{l:List (List PV)}{d:Nat}: (Ob.dp e k l).ref d=false:=rfl
@[simp] theorem Ob.ref_dead {d:Nat}:Ob.dead.ref d=false:=rfl
@[simp] theorem Ob.ref_mpo {U:List (List Int)}{fl:Int}{G F:List Int}{d:Nat}: (Ob.mpo U fl G F).ref d=false:=rfl
@[simp] theorem Ob.ref_pin {l:List Nat}{d:Nat}: (Ob.pin l).ref d=false:=rfl
@[simp] theorem Ob.ref_gr {e k:Nat}{l:List (List RV)}{d:Nat}: (Ob.gr e k l).ref d=l.any fun c=>c.any (·.ref d):=rfl
def strsOf:List (List PV)->Option (List ByteArray)
 | []=>some []
 | [.sc (.string s)]::l=>match strsOf l with | some r=>some (s::r) | none=>none
 | _=>none
def kidsF (g:PV->Option (List ByteArray)):List (List PV)->Option (List ByteArray)
 | []=>some []
 | [x]::l=>match g x,kidsF g l with | some a,some b=>some (a++b) | _,_=>none
 | _=>none
def nodeF:Nat->PV->Option (List ByteArray)
 | 0,_=>none
 | k+1,.pt (.sl 1 ks:: .sl 1 it::_)=>if ks.length<=1073741824 then(match strsOf it,kidsF (nodeF k) ks with | some a,some b=>some (a++b) | _,_=>none)else none
 | _+1,_=>none
def allF:PV->Option (List ByteArray)
 | .sc (.pointer none)=>some []
 | .pt (k::i:: .sc (.int .i64 n):: .sc (.int .i64 d)::r)=>match nodeF d.toNat (.pt (k::i:: .sc (.int .i64 n):: .sc (.int .i64 d)::r))with
  | some l=>if n=l.length/\l.length*16<=140737488355328 then some l else none
  | none=>none
 | _=>none
def ints (l:List Int):List (List PV):=l.map fun g=> [pi g]
abbrev inR (g:Int):Prop:= -9223372036854775808<=g/\g<=9223372036854775807
def lastS (U:List (List Int)):List Int:=U.getLastD []
abbrev revO (U:List (List Int)) (fl:Int) (G F:List Int):Ob:= .mpo U fl G F
def revNewF:List PV->Option Ret
 | [.hp [] []]=>some (.shn (.mo 0) [(0,revO [[]] 0 [] [])])
 | _=>none
def revHeadF:List PV->Option Ret
 | [.hp [.mo 0] [(0,.mpo U fl G F)]]=>some (.shn (.p (pi (fl+U.length-1))) [])
 | _=>none
def revLiveF:List PV->Option Ret
 | [.hp [.mo 0,.p (.sc (.int .i64 r))] [(0,.mpo U fl G F)]]=>some (.shn (.p (pb (decide (fl<=r)&&decide (r<=fl+U.length-1)))) [])
 | _=>none
def revUndoneF:List PV->Option Ret
 | [.hp [.mo 0,.p (.sc (.int .i64 r))] [(0,.mpo U fl G F)]]=>some (.shn (.p (.sl 1 (if fl<=r/\r<=fl+U.length-1 then ints (U.getD (r-fl).toNat [])else[]))) [])
 | _=>none
def revCopyF:List PV->Option Ret
 | [.hp [.mo 0] [(0,.mpo U fl G F)]]=>some (.shn (.mo 1) [(1,.mpo U fl G F)])
 | _=>none
def revAdd (U:List (List Int))(fl:Int)(G F:List Int)(g:Int):Ret :=
 if g∈F∨g<0∨60<=g then .shr (.p (.tu [pi 0,pi 210])) [(0,revO U fl G F)]
 else if 200<=fl+U.length-1 then .shr (.p (.tu [pi 0,pi 70])) [(0,revO U fl G F)]
 else .shr (.p (.tu [pi (fl+U.length),pi 0])) [(0,revO (U++ [lastS U]) fl (insS g G) F)]
def revAddF:List PV->Option Ret
 | [.hp [.mo 0,.p (.sc (.int .i64 g))] [(0,.mpo U fl G F)]]=>if inR g then some (revAdd U fl G F g)else none
 | _=>none
def revToggle (U:List (List Int))(fl:Int)(G F:List Int)(g:Int):Ret :=
 if g∉G then .shr (.p (.tu [pi 0,pi 210])) [(0,revO U fl G F)]
 else if 200<=fl+U.length-1 then .shr (.p (.tu [pi 0,pi 70])) [(0,revO U fl G F)]
 else .shr (.p (.tu [pi (fl+U.length),pi 0])) [(0,revO (U++ [if g∈lastS U then delS g (lastS U)else insS g (lastS U)]) fl G F)]
def revToggleF:List PV->Option Ret
 | [.hp [.mo 0,.p (.sc (.int .i64 g))] [(0,.mpo U fl G F)]]=>if inR g then some (revToggle U fl G F g)else none
 | _=>none
def cloneF (T:TypeId):List PV->Option Ret
 | [.sl 2 l]=>if(∀ c∈l,c.length=2)/\l.length*16<=140737488355328 then some (.own T 2 l)else none
 | _=>none
def extF (cp:List PV->Option Ret)(f:FuncId)(args:List PV):Option Ret :=
 if f=85 then(match args with | []=>some (.sb 1 145 5) | _=>none)
 else if f=208 then(match args with | []=>some (.sb 3 145 5) | _=>none)
 else if f=86 then(match args with | []=>some (.sb 2 145 5) | _=>none)
 else if f=220 then(match args with
  | []=>some (.val (.st [pI .u8 128,pI .u8 0,pI .i32 0,pI .u8 224,pI .u8 192,pI .i32 128,pI .u8 240,pI .u8 224,pI .i32 2048,pI .u8 248,pI .u8 240,pI .i32 65536]))
  | _=>none)
 else if f=106 then cloneF 64 args
 else if f=180 then cloneF 41 args
 else if f=43 then(match args with
  | []=>some (.val (.st [pb false,pb true,pb true,pb false,pb false,pb true,pb true,pb false,pb false]))
  | _=>none)
 else if f=84 then(match args with | [.st [x]]=> (match allF x with | some l=>some (.own 153 1 (l.map fun s=> [.sc (.string s)])) | none=>none) | _=>none)
 else if f=169 then cp (.fn f []::args)
 else if f=163 then cp (.fn f []::args)
 else if f=83 then cp (.fn f []::args)
 else if f=2000050 then revNewF args
 else if f=2000059 then revHeadF args
 else if f=2000151 then revLiveF args
 else if f=2000102 then revUndoneF args
 else if f=2000097 then revCopyF args
 else if f=1000054 then revAddF args
 else if f=1000062 then revToggleF args
 else if f=1000104 then cp (.fn f []::args)
 else none
def isExtF (f:FuncId):Bool:=f == 85||f == 208||f == 86||f == 220||f == 106||f == 180||f == 43||f == 84||f == 169||f == 163||f == 83 ||
 f == 2000050||f == 2000059||f == 2000151||f == 2000102||f == 2000097||f == 1000054||f == 1000062||f == 1000104
def EX (cp:List PV->Option Ret):Env:= ⟨prg,extF cp,isExtF⟩
variable {cp:List PV->Option Ret}
@[simp] theorem run_ws:Run (EX cp) 85 []=some (.sb 1 145 5):=by rw[Tb3 _ _ _ rfl]; rfl
@[simp] theorem run_wr:Run (EX cp) 208 []=some (.sb 3 145 5):=by rw[Tb3 _ _ _ rfl]; rfl
@[simp] theorem T4w:Run (EX cp) 86 []=some (.sb 2 145 5):=by rw[Tb3 _ _ _ rfl]; rfl
@[simp] theorem T3d:Run (EX cp) 220 []=some (.val (.st [pI .u8 128,pI .u8 0,pI .i32 0,pI .u8 224,pI .u8 192,pI .i32 128,pI .u8 240,pI .u8 224,pI .i32 2048,pI .u8 248,pI .u8 240,pI .i32 65536])):=by rw[Tb3 _ _ _ rfl]; rfl
theorem Tlz:Run (EX cp) 43 []=some (.val (.st [pb false,pb true,pb true,pb false,pb false,pb true,pb true,pb false,pb false])):=by rw[Tb3 _ _ _ rfl]; rfl
theorem Ttp (l:List (List PV))(h:∀ c∈l,c.length=2)(hb:l.length*16<=140737488355328):Run (EX cp) 106 [.sl 2 l]=some (.own 64 2 l):=by
 rw[Tb3 _ _ _ rfl]
 show(if(∀ c∈l,c.length=2)/\l.length*16<=140737488355328 then some (Ret.own 64 2 l)else none)=_
 rw[if_pos ⟨h,hb⟩]
theorem Tqw (l:List (List PV))(h:∀ c∈l,c.length=2)(hb:l.length*16<=140737488355328):Run (EX cp) 180 [.sl 2 l]=some (.own 41 2 l):=by
 rw[Tb3 _ _ _ rfl]
 show(if(∀ c∈l,c.length=2)/\l.length*16<=140737488355328 then some (Ret.own 41 2 l)else none)=_
 rw[if_pos ⟨h,hb⟩]
theorem Tqx:Run (EX cp) 2000050 [.hp [] []]=some (.shn (.mo 0) [(0,revO [[]] 0 [] [])]):=by rw[Tb3 _ _ _ rfl]; rfl
theorem Tnb (U:List (List Int))(fl:Int)(G F:List Int):Run (EX cp) 2000059 [.hp [.mo 0] [(0,.mpo U fl G F)]]=some (.shn (.p (pi (fl+U.length-1))) []):=by rw[Tb3 _ _ _ rfl]; rfl
theorem Tnc (U:List (List Int))(fl:Int)(G F:List Int)(r:Int):Run (EX cp) 2000151 [.hp [.mo 0,.p (pi r)] [(0,.mpo U fl G F)]]=some (.shn (.p (pb (decide (fl<=r)&&decide (r<=fl+U.length-1)))) []):=by rw[Tb3 _ _ _ rfl]; rfl
theorem Tkc (U:List (List Int))(fl:Int)(G F:List Int)(r:Int):Run (EX cp) 2000102 [.hp [.mo 0,.p (pi r)] [(0,.mpo U fl G F)]]=some (.shn (.p (.sl 1 (if fl<=r/\r<=fl+U.length-1 then ints (U.getD (r-fl).toNat [])else[]))) []):=by rw[Tb3 _ _ _ rfl]; rfl
theorem Tnd (U:List (List Int))(fl:Int)(G F:List Int):Run (EX cp) 2000097 [.hp [.mo 0] [(0,.mpo U fl G F)]]=some (.shn (.mo 1) [(1,.mpo U fl G F)]):=by rw[Tb3 _ _ _ rfl]; rfl
theorem Tc8 (U:List (List Int))(fl:Int)(G F:List Int)(g:Int)(hg:inR g):Run (EX cp) 1000054 [.hp [.mo 0,.p (pi g)] [(0,.mpo U fl G F)]]=some (revAdd U fl G F g):=by
 rw[Tb3 _ _ _ rfl]
 show(if inR g then some (revAdd U fl G F g)else none)=_
 rw[if_pos hg]
end Go.Proofs.YtjpibniecllafaaGreat.AM
end
section
namespace Go.Proofs.YtjpibniecllafaaGreat.U
open Go.Lib
def bi (b:UInt8):Int:= (b.toNat:Int)
theorem Tal (b:UInt8):0<=bi b/\bi b<256:=by
 have:=b.toNat_lt
 unfold bi
 omega
theorem T3e {a b:UInt8}(h:bi a=bi b):a=b:=by
 unfold bi at h
 exact UInt8.toNat_inj.1 (by omega)
theorem bi_of {x:Int}(h0:0<=x)(h1:x<256):bi x.toNat.toUInt8=x:=by
 unfold bi
 rw[Nat.toUInt8,UInt8.toNat_ofNat']
 omega
theorem of_bi (a:UInt8): (bi a).toNat.toUInt8=a:=T3e (bi_of (Tal a).1 (Tal a).2)
def cont (b:UInt8):Prop:=128<=bi b/\bi b<192
instance (b:UInt8):Decidable (cont b):=by unfold cont; exact inferInstance
def sc (v:Int):Prop:= (0<=v/\v<55296)∨ (57343<v/\v<=1114111)
instance (v:Int):Decidable (sc v):=by unfold sc; exact inferInstance
def v2 (a p:UInt8):Int:= (bi a-192)*64+ (bi p-128)
def v3 (a p q:UInt8):Int:= ((bi a-224)*64+ (bi p-128))*64+ (bi q-128)
def v4 (a p q r:UInt8):Int:= (((bi a-240)*64+ (bi p-128))*64+ (bi q-128))*64+ (bi r-128)
def dec:List UInt8->Nat×Int
 | []=> (0,0)
 | a::t =>
  if bi a<128 then(1,bi a)
  else if bi a<192 then(0,0)
  else if bi a<224 then
   match t with
   | p::_=>if cont p/\128<=v2 a p then(2,v2 a p)else(0,0)
   | _=> (0,0)
  else if bi a<240 then
   match t with
   | p::q::_=>if cont p/\cont q/\2048<=v3 a p q/\¬ (55296<=v3 a p q/\v3 a p q<=57343)then(3,v3 a p q)else(0,0)
   | _=> (0,0)
  else if bi a<248 then
   match t with
   | p::q::r::_=>if cont p/\cont q/\cont r/\65536<=v4 a p q r/\v4 a p q r<=1114111 then(4,v4 a p q r)else(0,0)
   | _=> (0,0)
  else(0,0)
def enc (v:Int):List UInt8:=encodeRune v
theorem Tkd {v:Int}(h0:0<=v)(h1:v<128):enc v= [v.toNat.toUInt8]:=by
 unfold enc encodeRune
 rw[encodeRuneZ_one h0 (by omega)]
 simp only[List.map_cons,List.map_nil]
theorem Tke {v:Int}(h0:128<=v)(h1:v<2048):enc v= [(192+v / 64).toNat.toUInt8,(128+v % 64).toNat.toUInt8]:=by
 unfold enc encodeRune
 rw[encodeRuneZ_two h0 (by omega)]
 simp only[List.map_cons,List.map_nil]
theorem Tfd {v:Int}(h0:2048<=v)(h1:v<65536)(h:sc v):enc v= [(224+v / 4096).toNat.toUInt8,(128+v / 64 % 64).toNat.toUInt8,(128+v % 64).toNat.toUInt8]:=by
 unfold enc encodeRune
 unfold sc at h
 rw[encodeRuneZ_three (by omega)]
 simp only[List.map_cons,List.map_nil]
theorem Tgp {v:Int}(h0:65536<=v)(h1:v<=1114111):enc v= [(240+v / 262144).toNat.toUInt8,(128+v / 4096 % 64).toNat.toUInt8,(128+v / 64 % 64).toNat.toUInt8,(128+v % 64).toNat.toUInt8]:=by
 unfold enc encodeRune
 rw[encodeRuneZ_four h0 h1]
 simp only[List.map_cons,List.map_nil]
theorem eq1 {a:UInt8}{x:Int}(h:x=bi a):x.toNat.toUInt8=a:=by rw[h]; exact of_bi a
set_option maxRecDepth 100000 in
theorem Ttq (l:List UInt8)(n:Nat)(v:Int)(h:dec l= (n,v))(hn:n≠0):sc v/\∃ r,l=enc v++r/\ (enc v).length=n:=by
 match l,h with
 | [],h=>exact absurd (Prod.mk.inj h).1.symm hn
 | a ::t,h =>
  have ha:=Tal a
  rw[dec.eq_def]at h
  simp only at h
  by_cases c1:bi a<128
  · rw[if_pos c1]at h
    obtain⟨rfl,rfl⟩:=Prod.mk.inj h
    refine⟨Or.inl ⟨ha.1,by omega⟩,t,?_⟩
    rw[Tkd ha.1 c1,of_bi]
    exact⟨rfl,rfl⟩
  rw[if_neg c1]at h
  by_cases c2:bi a<192
  · rw[if_pos c2]at h
    exact absurd (Prod.mk.inj h).1.symm hn
  rw[if_neg c2]at h
  by_cases c3:bi a<224
  · rw [if_pos c3]at h
    match t,h with
    | [],h=>exact absurd (Prod.mk.inj h).1.symm hn
    | p::t,h =>
     simp only at h
     have hp:=Tal p
     by_cases c:cont p/\128<=v2 a p
     · rw[if_pos c]at h
       obtain⟨rfl,rfl⟩:=Prod.mk.inj h
       obtain⟨d1,d2⟩:=c
       have e2:v2 a p= (bi a-192)*64+ (bi p-128):=rfl
       unfold cont at d1
       refine⟨Or.inl ⟨by omega,by omega⟩,t,?_⟩
       rw[Tke d2 (by omega),eq1 (a:=a) (by omega),eq1 (a:=p) (by omega)]
       exact⟨rfl,rfl⟩
     · rw[if_neg c]at h
       exact absurd (Prod.mk.inj h).1.symm hn
  rw[if_neg c3]at h
  by_cases c4:bi a<240
  · rw [if_pos c4]at h
    match t,h with
    | [],h=>exact absurd (Prod.mk.inj h).1.symm hn
    | [p],h=>exact absurd (Prod.mk.inj h).1.symm hn
    | p::q::t,h =>
     simp only at h
     have hp:=Tal p
     have hq:=Tal q
     by_cases c:cont p/\cont q/\2048<=v3 a p q/\¬ (55296<=v3 a p q/\v3 a p q<=57343)
     · rw[if_pos c]at h
       obtain⟨rfl,rfl⟩:=Prod.mk.inj h
       obtain⟨d1,d2,d3,d4⟩:=c
       have e2:v3 a p q= ((bi a-224)*64+ (bi p-128))*64+ (bi q-128):=rfl
       unfold cont at d1 d2
       have hs:sc (v3 a p q):=by unfold sc; omega
       refine⟨hs,t,?_⟩
       rw[Tfd d3 (by omega) hs,eq1 (a:=a) (by omega),eq1 (a:=p) (by omega),eq1 (a:=q) (by omega)]
       exact⟨rfl,rfl⟩
     · rw[if_neg c]at h
       exact absurd (Prod.mk.inj h).1.symm hn
  rw[if_neg c4]at h
  by_cases c5:bi a<248
  · rw [if_pos c5]at h
    match t,h with
    | [],h=>exact absurd (Prod.mk.inj h).1.symm hn
    | [p],h=>exact absurd (Prod.mk.inj h).1.symm hn
    | [p,q],h=>exact absurd (Prod.mk.inj h).1.symm hn
    | p::q::r::t,h =>
     simp only at h
     have hp:=Tal p
     have hq:=Tal q
     have hr:=Tal r
     by_cases c:cont p/\cont q/\cont r/\65536<=v4 a p q r/\v4 a p q r<=1114111
     · rw[if_pos c]at h
       obtain⟨rfl,rfl⟩:=Prod.mk.inj h
       obtain⟨d1,d2,d3,d4,d5⟩:=c
       have e2:v4 a p q r= (((bi a-240)*64+ (bi p-128))*64+ (bi q-128))*64+ (bi r-128):=rfl
       unfold cont at d1 d2 d3
       have hs:sc (v4 a p q r):=by unfold sc; omega
       refine⟨hs,t,?_⟩
       rw[Tgp d4 d5,eq1 (a:=a) (by omega),eq1 (a:=p) (by omega),eq1 (a:=q) (by omega),eq1 (a:=r) (by omega)]
       exact⟨rfl,rfl⟩
     · rw[if_neg c]at h
       exact absurd (Prod.mk.inj h).1.symm hn
  rw[if_neg c5]at h
  exact absurd (Prod.mk.inj h).1.symm hn
theorem Ttr (v:Int)(h:sc v)(r:List UInt8):dec (enc v++r)= ((enc v).length,v):=by
 have h':=h
 unfold sc at h'
 by_cases c1:v<128
 · rw[Tkd (by omega) c1]
   have e:=bi_of (x:=v) (by omega) (by omega)
   show dec (_::r)= (1,v)
   rw[dec.eq_def]
   simp only[e]
   rw[if_pos c1]
 by_cases c2:v<2048
 · rw[Tke (by omega) c2]
   have e:=bi_of (x:=192+v / 64) (by omega) (by omega)
   have f:=bi_of (x:=128+v % 64) (by omega) (by omega)
   show dec (_::_::r)= (2,v)
   rw[dec.eq_def]
   simp only[e]
   rw[if_neg (by omega),if_neg (by omega),if_pos (by omega)]
   have g:v2 (192+v / 64).toNat.toUInt8 (128+v % 64).toNat.toUInt8=v:=by unfold v2; rw[e,f]; omega
   rw[g,if_pos ⟨by unfold cont; rw[f]; omega,by omega⟩]
 by_cases c3:v<65536
 · rw[Tfd (by omega) c3 h]
   have e:=bi_of (x:=224+v / 4096) (by omega) (by omega)
   have f:=bi_of (x:=128+v / 64 % 64) (by omega) (by omega)
   have k:=bi_of (x:=128+v % 64) (by omega) (by omega)
   show dec (_::_::_::r)= (3,v)
   rw[dec.eq_def]
   simp only[e]
   rw[if_neg (by omega),if_neg (by omega),if_neg (by omega),if_pos (by omega)]
   have g:v3 (224+v / 4096).toNat.toUInt8 (128+v / 64 % 64).toNat.toUInt8 (128+v % 64).toNat.toUInt8=v:=by unfold v3; rw[e,f,k]; omega
   rw[g,if_pos ⟨by unfold cont; rw[f]; omega,by unfold cont; rw[k]; omega,by omega,by omega⟩]
 · rw[Tgp (by omega) (by omega)]
   have e:=bi_of (x:=240+v / 262144) (by omega) (by omega)
   have f:=bi_of (x:=128+v / 4096 % 64) (by omega) (by omega)
   have f2:=bi_of (x:=128+v / 64 % 64) (by omega) (by omega)
   have k:=bi_of (x:=128+v % 64) (by omega) (by omega)
   show dec (_::_::_::_::r)= (4,v)
   rw[dec.eq_def]
   simp only[e]
   rw[if_neg (by omega),if_neg (by omega),if_neg (by omega),if_neg (by omega),if_pos (by omega)]
   have g:v4 (240+v / 262144).toNat.toUInt8 (128+v / 4096 % 64).toNat.toUInt8 (128+v / 64 % 64).toNat.toUInt8 (128+v % 64).toNat.toUInt8=v:=by unfold v4; rw[e,f,f2,k]; omega
   rw[g,if_pos ⟨by unfold cont; rw[f]; omega,by unfold cont; rw[f2]; omega,by unfold cont; rw[k]; omega,by omega,by omega⟩]
theorem Tb7 (v:Int):1<= (enc v).length/\ (enc v).length<=4:=by
 have h:=runeCells_le v
 rw[runeCells_length]at h
 exact h
theorem To6 (v:Int):∃ a t,enc v=a::t:=by
 have h:=Tb7 v
 match e:enc v with
 | []=>rw[e]at h; simp at h
 | a::t=>exact⟨a,t,rfl⟩
def encs (vs:List Int):List UInt8:=vs.flatMap enc
@[simp] theorem T4h:encs []= []:=rfl
@[simp] theorem Tc9 (v:Int)(vs:List Int):encs (v::vs)=enc v++encs vs:=rfl
theorem T3f:sc 65533:=by decide
def points:List UInt8->List Int
 | []=> []
 | a::t=>if _h: (dec (a::t)).1=0 then 65533::points t else(dec (a::t)).2::points ((a::t).drop (dec (a::t)).1)
 termination_by l=>l.length
 decreasing_by
 · simp
 · simp only[List.length_drop,List.length_cons]; omega
def valid:List UInt8->Bool
 | []=>true
 | a::t=>if _h: (dec (a::t)).1=0 then false else valid ((a::t).drop (dec (a::t)).1)
 termination_by l=>l.length
 decreasing_by
 simp only[List.length_drop,List.length_cons]; omega
theorem Tba:points []= []:=points.eq_def []
theorem Ta0:valid []=true:=valid.eq_def []
theorem Ter (a:UInt8)(t:List UInt8):points (a::t)=if _h: (dec (a::t)).1=0 then 65533::points t else(dec (a::t)).2::points ((a::t).drop (dec (a::t)).1):=points.eq_def (a::t)
theorem Tf2 (a:UInt8)(t:List UInt8):valid (a::t)=if _h: (dec (a::t)).1=0 then false else valid ((a::t).drop (dec (a::t)).1):=valid.eq_def (a::t)
theorem Tes {a:UInt8}{t:List UInt8}(h: (dec (a::t)).1=0):points (a::t)=65533::points t:=by rw[Ter,dif_pos h]
theorem Tcf {a:UInt8}{t:List UInt8}(h: (dec (a::t)).1=0):valid (a::t)=false:=by rw[Tf2,dif_pos h]
theorem Tb8 {v:Int}(h:sc v)(r:List UInt8):points (enc v++r)=v::points r:=by
 have hd:=Ttr v h r
 obtain⟨a,t,e⟩:=To6 v
 have hl:= (Tb7 v).1
 have hr: (enc v++r).drop (enc v).length=r:=List.drop_left
 rw[e]at hd hl hr ⊢
 rw[List.cons_append]at hd hr ⊢
 rw[Ter,dif_neg (by rw[hd]; simp)]
 simp only[hd,hr]
theorem Tbk {v:Int}(h:sc v)(r:List UInt8):valid (enc v++r)=valid r:=by
 have hd:=Ttr v h r
 obtain⟨a,t,e⟩:=To6 v
 have hr: (enc v++r).drop (enc v).length=r:=List.drop_left
 rw[e]at hd hr ⊢
 rw[List.cons_append]at hd hr ⊢
 rw[Tf2,dif_neg (by rw[hd]; simp)]
 simp only[hd,hr]
theorem parts (l:List UInt8):l= []∨ (∃ a t,l=a::t/\ (dec l).1=0)∨∃ v r,sc v/\l=enc v++r/\dec l= ((enc v).length,v):=by
 match l with
 | []=>exact .inl rfl
 | a::t =>
  by_cases h: (dec (a::t)).1=0
  · exact .inr (.inl ⟨a,t,rfl,h⟩)
  · obtain⟨hs,r,hl,hn⟩:=Ttq (a::t) (dec (a::t)).1 (dec (a::t)).2 (Prod.eta (dec (a::t))).symm h
    exact .inr (.inr ⟨(dec (a::t)).2,r,hs,hl,by rw[hn]⟩)
theorem along {P:List UInt8->Prop}(h0:P [])(h1:∀ a t,(dec (a::t)).1=0->P t->P (a::t))(h2:∀ v r,sc v->P r->P (enc v++r))(l:List UInt8):P l:=by
 suffices h:∀ n (l:List UInt8),l.length<=n->P l from h _ l (Nat.le_refl _)
 intro n
 induction n with
 | zero=>intro l hl; rw[List.length_eq_zero_iff.1 (by omega:l.length=0)]; exact h0
 | succ n ih =>
  intro l hl
  rcases parts l with rfl | ⟨a,t,rfl,h⟩ | ⟨v,r,hs,rfl,hd⟩
  · exact h0
  · exact h1 a t h (ih t (by simp at hl; omega))
  · have:= (Tb7 v).1
    exact h2 v r hs (ih r (by rw[List.length_append]at hl; omega))
theorem Tcs (l:List UInt8):∀ v∈points l,sc v:=by
 induction l using along with
 | h0=>rw[Tba]; simp
 | h1 a t h ih=>rw[Tes h]; intro v hv; rcases List.mem_cons.1 hv with rfl | hv; exact T3f; exact ih v hv
 | h2 v r hs ih=>rw[Tb8 hs]; intro u hu; rcases List.mem_cons.1 hu with rfl | hu; exact hs; exact ih u hu
theorem Thx (vs:List Int)(h:∀ v∈vs,sc v)(r:List UInt8):points (encs vs++r)=vs++points r:=by
 induction vs with
 | nil=>rfl
 | cons v vs ih =>
  rw[Tc9,List.append_assoc,Tb8 (h v (by simp)),ih (fun u hu=>h u (by simp[hu]))]
  rfl
theorem Tjc (vs:List Int)(h:∀ v∈vs,sc v)(r:List UInt8):valid (encs vs++r)=valid r:=by
 induction vs with
 | nil=>rfl
 | cons v vs ih=>rw[Tc9,List.append_assoc,Tbk (h v (by simp)),ih (fun u hu=>h u (by simp[hu]))]
theorem Thy (vs:List Int)(h:∀ v∈vs,sc v):valid (encs vs)=true:=by
 have:=Tjc vs h []
 rw[List.append_nil,Ta0]at this
 exact this
theorem Td0 (vs:List Int)(h:∀ v∈vs,sc v):points (encs vs)=vs:=by
 have:=Thx vs h []
 rw[List.append_nil,Tba,List.append_nil]at this
 exact this
def clean (l:List UInt8):List UInt8:=encs (points l)
theorem Tdr (l:List UInt8):valid (clean l)=true:=Thy _ (Tcs l)
theorem Tbd (l:List UInt8):valid l=true->clean l=l:=by
 unfold clean
 induction l using along with
 | h0=>intro _; rw[Tba]; rfl
 | h1 a t h ih=>intro hv; rw[Tcf h]at hv; cases hv
 | h2 v r hs ih=>intro hv; rw[Tbk hs]at hv; rw[Tb8 hs,Tc9,ih hv]
theorem Tl0 (l:List UInt8):valid l=true↔clean l=l:= ⟨Tbd l,fun h=>by rw[← h]; exact Tdr l⟩
theorem Tkf (l:List UInt8): (clean l).length<=4*l.length:=by
 unfold clean
 induction l using along with
 | h0=>rw[Tba]; simp
 | h1 a t h ih=>rw[Tes h,Tc9,List.length_append,List.length_cons]; have:= (Tb7 65533).2; omega
 | h2 v r hs ih=>rw[Tb8 hs,Tc9,List.length_append,List.length_append]; omega
theorem Tda (l:List UInt8): (points l).length<=l.length:=by
 induction l using along with
 | h0=>rw[Tba]; simp
 | h1 a t h ih=>rw[Tes h,List.length_cons,List.length_cons]; omega
 | h2 v r hs ih=>rw[Tb8 hs,List.length_cons,List.length_append]; have:= (Tb7 v).1; omega
theorem Tkg {a:List UInt8}(h:valid a=true)(b:List UInt8):points (a++b)=points a++points b:=by
 have e:= (Tl0 a).1 h
 unfold clean at e
 conv=>lhs; rw[← e]
 rw[Thx _ (Tcs a)]
theorem Td1 {a:List UInt8}(h:valid a=true)(b:List UInt8):valid (a++b)=valid b:=by
 have e:= (Tl0 a).1 h
 unfold clean at e
 conv=>lhs; rw[← e]
 rw[Tjc _ (Tcs a)]
theorem Thz (v:Int)(h:sc v):∃ a t,enc v=a::t/\¬ cont a/\∀ x∈t,cont x:=by
 have h':=h
 unfold sc at h'
 by_cases c1:v<128
 · refine⟨_,[],Tkd (by omega) c1,?_,by simp⟩
   unfold cont; rw[bi_of (by omega) (by omega)]; omega
 by_cases c2:v<2048
 · refine⟨_,[_],Tke (by omega) c2,?_,?_⟩
   · unfold cont; rw[bi_of (by omega) (by omega)]; omega
   · intro x hx; rw[List.mem_singleton.1 hx]; unfold cont; rw[bi_of (by omega) (by omega)]; omega
 by_cases c3:v<65536
 · refine⟨_,[_,_],Tfd (by omega) c3 h,?_,?_⟩
   · unfold cont; rw[bi_of (by omega) (by omega)]; omega
   · intro x hx
     rcases List.mem_cons.1 hx with rfl | hx
     · unfold cont; rw[bi_of (by omega) (by omega)]; omega
     · rw[List.mem_singleton.1 hx]; unfold cont; rw[bi_of (by omega) (by omega)]; omega
 · refine⟨_,[_,_,_],Tgp (by omega) (by omega),?_,?_⟩
   · unfold cont; rw[bi_of (by omega) (by omega)]; omega
   · intro x hx
     rcases List.mem_cons.1 hx with rfl | hx
     · unfold cont; rw[bi_of (by omega) (by omega)]; omega
     · rcases List.mem_cons.1 hx with rfl | hx
       · unfold cont; rw[bi_of (by omega) (by omega)]; omega
       · rw[List.mem_singleton.1 hx]; unfold cont; rw[bi_of (by omega) (by omega)]; omega
theorem To7 {a:UInt8}(h:cont a)(t:List UInt8): (dec (a::t)).1=0:=by
 unfold cont at h
 rw[dec.eq_def]
 simp only
 rw[if_neg (by omega),if_pos (by omega)]
theorem T3g (l:List UInt8): (dec l).1<=l.length/\ (dec l).1<=4:=by
 rcases parts l with rfl | ⟨a,t,rfl,h⟩ | ⟨v,r,hs,rfl,hd⟩
 · exact⟨Nat.le_refl _,Nat.zero_le _⟩
 · rw[h]; exact⟨Nat.zero_le _,Nat.zero_le _⟩
 · rw[hd,List.length_append]; have:=Tb7 v; exact⟨by simp,by simp; omega⟩
theorem Tts (l:List UInt8)(h: (dec l).1≠0):sc (dec l).2:= (Ttq l (dec l).1 (dec l).2 (Prod.eta (dec l)).symm h).1
end Go.Proofs.YtjpibniecllafaaGreat.U
end
section
namespace Go.Proofs.YtjpibniecllafaaGreat.AM
open Go Go.Proofs.YtjpibniecllafaaGreat.U
variable {cp:List PV->Option Ret}
noncomputable def seqC (E:Env)(b:ACode):Option (Out×St)->Option (Out×St)
 | some (.nor,s)=>Code E b s
 | r=>r
def regC (keep:List Nat):Option St->Option (Out×St)
 | some s=>some (.nor,norm keep s)
 | none=>none
noncomputable def iteC (E:Env)(a b:ACode)(s:St):Option SV->Option (Out×St)
 | some (.p (.sc (.bool true)))=>Code E a s
 | some (.p (.sc (.bool false)))=>Code E b s
 | _=>none
def blkC (id:Nat):Option (Out×St)->Option (Out×St)
 | some (.ex i,s)=>if i=id then some (.nor,s)else some (.ex i,s)
 | r=>r
def stepsC (call:Call)(os:List AOper):Option St->Option St
 | some s=>steps call os s
 | none=>none
def effC (d:Option Nat)(s:St):Option Eff->Option St
 | some e=>some ⟨puts s.t d e.v,putAll s.h e.hs⟩
 | none=>none
def grdC (call:Call)(d:Option Nat)(o:AOp)(w:Bool)(s:St):Option SV->Option St
 | some (.p (.sc (.bool b)))=>if b=w then effC d s (eff call s (d.getD 0) o)else some ⟨puts s.t d undefS,s.h⟩
 | some (.p (.sc (.tuple _)))=>some ⟨puts s.t d undefS,s.h⟩
 | _=>none
def runC (fn:AFunc):Option (Out×St)->Option Ret
 | some (.ex _,_)=>none
 | some (_,s)=>finish fn s
 | none=>none
noncomputable def loopC (E:Env)(keep:List Nat)(a:ACode):Option (Out×St)->Option (Out×St)
 | some (.nor,s)=>Code E (.loop keep a) s
 | r=>r
section
variable (E:Env)(a b:ACode)(s:St)(call:Call)
theorem k_seq:Code E (.seq a b) s=seqC E b (Code E a s):=by
 rw[Twi]; unfold seqC; rfl
theorem k_reg (ops:List AOper)(keep:List Nat):Code E (.reg ops keep) s=regC keep (steps (Run E) ops s):=by
 rw[Twh]; unfold regC; rfl
theorem T3h (ops:List AOper)(keep fz:List Nat):Code E (.regf ops keep fz) s=regC keep (steps (Run E) ops (fz.foldl fz1 s)):=by
 rw[Tsj]; unfold regC; rfl
theorem k_ite (x:X):Code E (.ite x a b) s=iteC E a b s (x.ev s):=by
 rw[Twj]
 cases h:x.ev s with
 | none=>rfl
 | some v =>
  cases v with
  | p y=>cases y with
   | sc z=>cases z with
    | bool c=>cases c<;> rfl
    | _=>rfl
   | _=>rfl
  | _=>rfl
theorem k_blk (id:Nat):Code E (.blk id a) s=blkC id (Code E a s):=by
 rw[Twk]; unfold blkC; rfl
theorem Taf (keep:List Nat):Code E (.loop keep a) s=loopC E keep a (Code E a (norm keep s)):=by
 rw[Tsk]; unfold loopC; rfl
theorem T1e (o:AOper)(os:List AOper):steps call (o::os) s=stepsC call os (step call o s):=by
 simp only[steps,stepsC]
 cases step call o s<;> rfl
theorem k_nil:steps call [] s=some s:=rfl
theorem T1f (d:Option Nat)(o:AOp):step call ⟨d,o,none⟩ s=effC d s (eff call s (d.getD 0) o):=by
 simp only[step,effC]
 cases eff call s (d.getD 0) o<;> rfl
theorem T1g (d:Option Nat)(o:AOp)(g:Nat)(w:Bool):step call ⟨d,o,some (g,w)⟩ s=grdC call d o w s (get s.t g):=by
 simp only[step,grdC,effC]
 cases get s.t g with
 | none=>rfl
 | some v =>
  cases v with
  | p y=>cases y with
   | sc z=>cases z with
    | bool c =>
     by_cases hc:c=w
     · simp only[hc,if_true]; cases eff call s (d.getD 0) o<;> rfl
     · simp only[hc,if_false]
    | _=>rfl
   | _=>rfl
  | _=>rfl
@[simp] theorem Txp:seqC E b (some (.nor,s))=Code E b s:=rfl
@[simp] theorem T1h (i:Nat):seqC E b (some (.ex i,s))=some (.ex i,s):=rfl
@[simp] theorem Txq:seqC E b (some (.ret,s))=some (.ret,s):=rfl
@[simp] theorem T3i:seqC E b none=none:=rfl
@[simp] theorem Ttt (keep:List Nat):regC keep (some s)=some (.nor,norm keep s):=rfl
@[simp] theorem T3j (keep:List Nat):regC keep none=none:=rfl
@[simp] theorem iteC_t:iteC E a b s (some (.p (.sc (.bool true))))=Code E a s:=rfl
@[simp] theorem iteC_f:iteC E a b s (some (.p (.sc (.bool false))))=Code E b s:=rfl
@[simp] theorem T4x (id i:Nat):blkC id (some (.ex i,s))=if i=id then some (.nor,s)else some (.ex i,s):=rfl
@[simp] theorem T4i (id:Nat):blkC id (some (.nor,s))=some (.nor,s):=rfl
@[simp] theorem T4j (id:Nat):blkC id (some (.ret,s))=some (.ret,s):=rfl
@[simp] theorem T1i (os:List AOper):stepsC call os (some s)=steps call os s:=rfl
@[simp] theorem T3k (d:Option Nat)(e:Eff):effC d s (some e)=some ⟨puts s.t d e.v,putAll s.h e.hs⟩:=rfl
@[simp] theorem grdC_t (d:Option Nat)(o:AOp):grdC call d o true s (some (.p (.sc (.bool true))))=effC d s (eff call s (d.getD 0) o):=rfl
@[simp] theorem grdC_f (d:Option Nat)(o:AOp):grdC call d o false s (some (.p (.sc (.bool false))))=effC d s (eff call s (d.getD 0) o):=rfl
@[simp] theorem T4y (d:Option Nat)(o:AOp):grdC call d o true s (some (.p (.sc (.bool false))))=some ⟨puts s.t d undefS,s.h⟩:=rfl
@[simp] theorem T4z (d:Option Nat)(o:AOp):grdC call d o false s (some (.p (.sc (.bool true))))=some ⟨puts s.t d undefS,s.h⟩:=rfl
@[simp] theorem grdC_u (d:Option Nat)(o:AOp)(w:Bool)(l:Array Value):grdC call d o w s (some (.p (.sc (.tuple l))))=some ⟨puts s.t d undefS,s.h⟩:=rfl
@[simp] theorem T4k (fn:AFunc):runC fn (some (.ret,s))=finish fn s:=rfl
@[simp] theorem T4l (fn:AFunc):runC fn (some (.nor,s))=finish fn s:=rfl
@[simp] theorem T3l (keep:List Nat):loopC E keep a (some (.nor,s))=Code E (.loop keep a) s:=rfl
@[simp] theorem T4m (keep:List Nat)(i:Nat):loopC E keep a (some (.ex i,s))=some (.ex i,s):=rfl
@[simp] theorem T3m (keep:List Nat):loopC E keep a (some (.ret,s))=some (.ret,s):=rfl
end
def headN:Nat->ACode->ACode
 | 0,_=> .skip
 | n+1,.seq a b=> .seq a (headN n b)
 | _+1,c=>c
def tailN:Nat->ACode->ACode
 | 0,c=>c
 | n+1,.seq _ b=>tailN n b
 | _+1,_=> .skip
theorem Tjd (E:Env)(n:Nat):∀(c:ACode) (s s':St),Code E (headN n c) s=some (.nor,s')->Code E c s=Code E (tailN n c) s':=by
 induction n with
 | zero =>
  intro c s s' h
  rw[headN,Tg3]at h
  simp only[oIE,Prod.mk.injEq,true_and]at h
  rw[h,tailN]
 | succ n ih =>
  intro c s s' h
  cases c
  case seq a b =>
   rw[headN,k_seq]at h
   rw[k_seq,tailN]
   cases ha:Code E a s with
   | none=>rw[ha]at h; simp[seqC]at h
   | some q =>
    obtain⟨o,s1⟩:=q
    rw[ha]at h
    cases o with
    | nor=>rw[Txp]at h ⊢; exact ih b s1 s' h
    | ex i=>rw[T1h]at h; simp at h
    | ret=>rw[Txq]at h; simp at h
  all_goals exact h.trans (Tg3 E s').symm
theorem Tah (f:FuncId)(fn:AFunc)(a:List PV)(he:isExtF f=false)(hf:prg f=some fn)(ha:a.length=fn.np) :
 Run (EX cp) f a=runC fn (Code (EX cp) fn.body ⟨entry 0 a,[]⟩):=by
 rw[T25 (EX cp) f fn a he hf ha]
 unfold runC; rfl
theorem Tab (n:Int)(h0: -9223372036854775808<=n)(h1:n<=9223372036854775807):IntKind.wrap .i64 n=n:=by
 simp only[IntKind.wrap,IntKind.bits,IntKind.signed]
 simp
 split<;> omega
theorem Tbw (n:Int)(h0: -2147483648<=n)(h1:n<=2147483647):IntKind.wrap .i32 n=n:=by
 simp only[IntKind.wrap,IntKind.bits,IntKind.signed]
 simp
 split<;> omega
theorem Taj {p:Prop}[Decidable p]{α:Type}(h:p)(a b:α): (if p then a else b)=a:=if_pos h
theorem if_no {p:Prop}[Decidable p]{α:Type}(h:¬ p)(a b:α): (if p then a else b)=b:=if_neg h
theorem Taa {p:Prop}[Decidable p](h:p):decide p=true:=decide_eq_true h
theorem Tad {p:Prop}[Decidable p](h:¬ p):decide p=false:=decide_eq_false h
section
variable (k k':IntKind)(a b:Int)
@[simp] theorem b_add:binS .add (.sc (.int k a)) (.sc (.int k' b))=if k=k' then some (.sc (.int k (k.wrap (a+b))))else none:=rfl
@[simp] theorem b_sub:binS .sub (.sc (.int k a)) (.sc (.int k' b))=if k=k' then some (.sc (.int k (k.wrap (a-b))))else none:=rfl
@[simp] theorem b_mul:binS .mul (.sc (.int k a)) (.sc (.int k' b))=if k=k' then some (.sc (.int k (k.wrap (a*b))))else none:=rfl
@[simp] theorem b_quo:binS .quo (.sc (.int k a)) (.sc (.int k' b))=if k=k' then(if b=0 then none else some (.sc (.int k (k.wrap (a.tdiv b)))))else none:=rfl
@[simp] theorem b_rem:binS .rem (.sc (.int k a)) (.sc (.int k' b))=if k=k' then(if b=0 then none else some (.sc (.int k (a.tmod b))))else none:=rfl
@[simp] theorem b_and:binS .and (.sc (.int k a)) (.sc (.int k' b))=if k=k' then some (.sc (.int k (bits .and k a b)))else none:=rfl
@[simp] theorem b_or:binS .or (.sc (.int k a)) (.sc (.int k' b))=if k=k' then some (.sc (.int k (bits .or k a b)))else none:=rfl
@[simp] theorem T4n:binS .andNot (.sc (.int k a)) (.sc (.int k' b))=if k=k' then some (.sc (.int k (bits .andNot k a b)))else none:=rfl
@[simp] theorem b_shl:binS .shl (.sc (.int k a)) (.sc (.int k' b))=if b<0 then none else some (.sc (.int k (k.wrap (a*2 ^ (min b.toNat k.bits))))):=rfl
@[simp] theorem b_shr:binS .shr (.sc (.int k a)) (.sc (.int k' b))=if b<0 then none else some (.sc (.int k (a.fdiv (2 ^ (min b.toNat k.bits))))):=rfl
@[simp] theorem b_eql:binS .eql (.sc (.int k a)) (.sc (.int k' b))=if k=k' then some (.sc (.bool (decide (a=b))))else none:=by
 show(if k=k' then some (PV.sc (.bool (a == b)))else none)=_
 rw[show(a == b)=decide (a=b)from by by_cases h:a=b<;> simp[h]]
@[simp] theorem b_neq:binS .neq (.sc (.int k a)) (.sc (.int k' b))=if k=k' then some (.sc (.bool (decide (a≠b))))else none:=by
 show(if k=k' then some (PV.sc (.bool (a !=b)))else none)=_
 rw[show(a !=b)=decide (a≠b)from by by_cases h:a=b<;> simp[h]]
@[simp] theorem b_lss:binS .lss (.sc (.int k a)) (.sc (.int k' b))=if k=k' then some (.sc (.bool (decide (a<b))))else none:=rfl
@[simp] theorem b_leq:binS .leq (.sc (.int k a)) (.sc (.int k' b))=if k=k' then some (.sc (.bool (decide (a<=b))))else none:=rfl
@[simp] theorem b_gtr:binS .gtr (.sc (.int k a)) (.sc (.int k' b))=if k=k' then some (.sc (.bool (decide (b<a))))else none:=rfl
@[simp] theorem b_geq:binS .geq (.sc (.int k a)) (.sc (.int k' b))=if k=k' then some (.sc (.bool (decide (b<=a))))else none:=rfl
end
@[simp] theorem b_cat (a b:ByteArray):binS .add (.sc (.string a)) (.sc (.string b))=if((a.size+b.size:Nat):Int)<=9223372036854775807 then some (.sc (.string (a++b)))else none:=rfl
theorem To8 (s:ByteArray):s.toList=s.data.toList:=Lib.toList_data s
theorem ba_eq {s t:ByteArray}: (s.toList=t.toList)↔s=t:=by
 rw[To8,To8]
 constructor
 · intro h; cases s; cases t; simp only[ByteArray.mk.injEq]; exact Array.toList_inj.1 h
 · intro h; rw[h]
@[simp] theorem b_seq (a b:ByteArray):binS .eql (.sc (.string a)) (.sc (.string b))=some (.sc (.bool (decide (a=b)))):=by
 show some (PV.sc (.bool (a.toList == b.toList)))=_
 by_cases h:a=b
 · simp[h]
 · have:¬ a.toList=b.toList:=fun e=>h (ba_eq.1 e)
   simp[h,this]
@[simp] theorem b_sne (a b:ByteArray):binS .neq (.sc (.string a)) (.sc (.string b))=some (.sc (.bool (decide (a≠b)))):=by
 show some (PV.sc (.bool (!(a.toList == b.toList))))=_
 by_cases h:a=b
 · simp[h]
 · have:¬ a.toList=b.toList:=fun e=>h (ba_eq.1 e)
   simp[h,this]
attribute [simp] k_seq k_reg T3h fz1 k_ite k_blk Tzy Twg Tg3 T1e k_nil T1f T1g eff X.ev get put puts putAll uns sop1 sop2 norm keepT gc ren1 SV.id? natOf evs frzs ret1 frz newId unS SV.ref SV.ren Ob.isDp PV.cells cellAt List.filter_cons entry finish finish.one finish.many svLen natOr elems sbwE sbsE unRow sbRow sbAdd mnmxs mnmx fillP fillR undefS List.getElem?_cons_zero List.getElem?_cons_succ
def L (s:ByteArray):List UInt8:=s.data.toList
theorem L_len (s:ByteArray): (L s).length=s.size:=by unfold L; rw[Array.length_toList]; rfl
theorem L_mk (l:List UInt8):L ⟨l.toArray⟩=l:=by simp[L]
theorem L_inj {s t:ByteArray}(h:L s=L t):s=t:=by
 unfold L at h
 cases s; cases t
 simp only[ByteArray.mk.injEq]
 exact Array.toList_inj.1 h
theorem mk_L (s:ByteArray): (⟨(L s).toArray⟩:ByteArray)=s:=L_inj (L_mk _)
theorem Tkh (s t:ByteArray):L (s++t)=L s++L t:=by simp[L]
theorem L_extract (s:ByteArray)(i j:Nat):L (s.extract i j)= ((L s).drop i).take (j-i):=by
 simp[L,ByteArray.extract,ByteArray.copySlice,List.extract_eq_take_drop]
theorem bt_at (s:ByteArray)(i:Nat)(a:UInt8)(t:List UInt8)(h: (L s).drop i=a::t):bt? s (i:Int)=some (bi a)/\i<s.size/\ (L s).drop (i+1)=t:=by
 have hi:i< (L s).length:=by
  rcases Nat.lt_or_ge i (L s).length with h' | h'
  · exact h'
  · rw[List.drop_eq_nil_of_le h']at h; simp at h
 rw[List.drop_eq_getElem_cons hi]at h
 obtain⟨h1,h2⟩:=List.cons.inj h
 rw[L_len]at hi
 refine⟨?_,hi,h2⟩
 unfold bt?
 rw[if_pos (by omega),Int.toNat_natCast,getElem?_pos s i hi]
 rw[← h1]; rfl
theorem Tzg (s:ByteArray)(i:Int)(n:Nat)(hn:i=n)(a:UInt8)(t:List UInt8)(h: (L s).drop n=a::t):bt? s i=some (bi a):=by rw[hn]; exact(bt_at s n a t h).1
theorem Tet (s:ByteArray)(i:Nat)(h:i<s.size):∃ a t,(L s).drop i=a::t:=by
 have hi:i< (L s).length:=by rw[L_len]; exact h
 exact⟨_,_,List.drop_eq_getElem_cons hi⟩
theorem Tbx (s:ByteArray)(i:Nat)(h:s.size<=i): (L s).drop i= []:=by rw[List.drop_eq_nil_iff,L_len]; exact h
theorem Tgq (s:ByteArray)(i:Nat)(l:List UInt8)(h: (L s).drop i=l)(hi:i<=s.size):s.size=i+l.length:=by
 have:=congrArg List.length h
 rw[List.length_drop,L_len]at this
 omega
@[simp] theorem Tzh (a b:List UInt8):bRows a++bRows b=bRows (a++b):=by simp[bRows]
@[simp] theorem Ttu:bRows []= []:=rfl
@[simp] theorem T3n (a:List UInt8): (bRows a).length=a.length:=by simp[bRows]
@[simp] theorem Tl1:∀ l:List UInt8,sbBytes (bRows l)=some l
 | []=>rfl
 | b::l=>by
  have hb:=b.toNat_lt
  show(if(0:Int)<= (b.toNat:Int)/\ (b.toNat:Int)<256 then(sbBytes (bRows l)).map (UInt8.ofNat (b.toNat:Int).toNat:: ·)else none)=some (b::l)
  rw[if_pos ⟨by omega,by omega⟩,Tl1 l]
  simp
end Go.Proofs.YtjpibniecllafaaGreat.AM
end
section
namespace Go.Proofs.YtjpibniecllafaaGreat.AM
open Go Go.Proofs.YtjpibniecllafaaGreat.U
variable {cp:List PV->Option Ret}
theorem isPoint (v:Int):Run (EX cp) 207 [pI .i32 v]=some (.val (pb (decide (sc v)))):=by
 rw[Tah _ A_utf_isPoint _ rfl rfl rfl]
 by_cases h0:0<=v
 · by_cases h1:v<=1114111
   · by_cases h2:v<55296
     · simp(disch:=omega)[A_utf_isPoint,Taa,Tad]
       unfold sc; omega
     · simp(disch:=omega)[A_utf_isPoint,Taa,Tad]
       unfold sc; omega
   · simp(disch:=omega)[A_utf_isPoint,Taa,Tad]
     intro h; unfold sc at h; omega
 · simp(disch:=omega)[A_utf_isPoint,Taa,Tad]
   intro h; unfold sc at h; omega
theorem u128:∀ n:Nat,n<256->bits .and .u8 (n:Int) 128= (n / 128*128:Nat):=by decide +kernel
theorem u224:∀ n:Nat,n<256->bits .and .u8 (n:Int) 224= (n / 32*32:Nat):=by decide +kernel
theorem u240:∀ n:Nat,n<256->bits .and .u8 (n:Int) 240= (n / 16*16:Nat):=by decide +kernel
theorem u248:∀ n:Nat,n<256->bits .and .u8 (n:Int) 248= (n / 8*8:Nat):=by decide +kernel
theorem u192:∀ n:Nat,n<256->bits .and .u8 (n:Int) 192= (n / 64*64:Nat):=by decide +kernel
theorem v192:∀ n:Nat,n<256->bits .andNot .u8 (n:Int) 192= (n % 64:Nat):=by decide +kernel
theorem v128:∀ n:Nat,n<256->bits .andNot .u8 (n:Int) 128= (n % 128:Nat):=by decide +kernel
theorem v224:∀ n:Nat,n<256->bits .andNot .u8 (n:Int) 224= (n % 32:Nat):=by decide +kernel
theorem v240:∀ n:Nat,n<256->bits .andNot .u8 (n:Int) 240= (n % 16:Nat):=by decide +kernel
theorem v248:∀ n:Nat,n<256->bits .andNot .u8 (n:Int) 248= (n % 8:Nat):=by decide +kernel
theorem n128 (a:UInt8):bits .and .u8 (bi a) 128=bi a / 128*128:=by have:=u128 a.toNat a.toNat_lt; unfold bi; omega
theorem n224 (a:UInt8):bits .and .u8 (bi a) 224=bi a / 32*32:=by have:=u224 a.toNat a.toNat_lt; unfold bi; omega
theorem n240 (a:UInt8):bits .and .u8 (bi a) 240=bi a / 16*16:=by have:=u240 a.toNat a.toNat_lt; unfold bi; omega
theorem n248 (a:UInt8):bits .and .u8 (bi a) 248=bi a / 8*8:=by have:=u248 a.toNat a.toNat_lt; unfold bi; omega
theorem n192 (a:UInt8):bits .and .u8 (bi a) 192=bi a / 64*64:=by have:=u192 a.toNat a.toNat_lt; unfold bi; omega
theorem m192 (a:UInt8):bits .andNot .u8 (bi a) 192=bi a % 64:=by have:=v192 a.toNat a.toNat_lt; unfold bi; omega
theorem m128 (a:UInt8):bits .andNot .u8 (bi a) 128=bi a % 128:=by have:=v128 a.toNat a.toNat_lt; unfold bi; omega
theorem m224 (a:UInt8):bits .andNot .u8 (bi a) 224=bi a % 32:=by have:=v224 a.toNat a.toNat_lt; unfold bi; omega
theorem m240 (a:UInt8):bits .andNot .u8 (bi a) 240=bi a % 16:=by have:=v240 a.toNat a.toNat_lt; unfold bi; omega
theorem m248 (a:UInt8):bits .andNot .u8 (bi a) 248=bi a % 8:=by have:=v248 a.toNat a.toNat_lt; unfold bi; omega
def stLong (s:ByteArray)(at_ n:Int)(m f ls:Int)(r i:Int):St :=
 ⟨[(0,.p (.sc (.string s))),(1,.p (pi at_)),(2,.p (pi n)),(7,.mp 7 0 0),(10,.p (pI .i32 r)),(11,.p (pi i))],[(7,.row 270 3 false [[pI .u8 m,pI .u8 f,pI .i32 ls]])]⟩
theorem Tdb (s:ByteArray)(at_:Nat)(n m f ls r:Int)(i:Nat)(h: (i:Int)<n)(hat:at_<1099511627776)(hi:i<=3)(b:UInt8)(t:List UInt8)(hb: (L s).drop (at_+i)=b::t)(r0:0<=r)(r1:r<1000000) :
 Code (EX cp) L_utf_long_0 (stLong s at_ n m f ls r i)=if cont b then Code (EX cp) L_utf_long_0 (stLong s at_ n m f ls (r*64+ (bi b-128)) (i+1))else some (.ret,⟨[(8,.p (pI .i32 0)),(9,.p (pi 0))],[]⟩):=by
 have hb1:=Tzg s ((at_:Int)+i) (at_+i) (by omega) b t hb
 have hr:=Tal b
 have e1:=m192 b
 rw[L_utf_long_0,Taf,stLong]
 by_cases c:cont b
 · rw[if_pos c]
   unfold cont at c
   have e2:bits .or .i32 (r*64) (bi b % 64)=r*64+ (bi b-128):=by
    rw[i32_or6 (r*64) (bi b % 64) (by omega) (by omega) (by omega) (by omega) (by omega)]; omega
   have e3:bi b / 64*64=128:=by omega
   simp(disch:=omega)[Taa,Tad,Tab,Tbw,hb1,n192,m192,e3,e2,IntKind.bits,stLong]
 · rw[if_neg c]
   unfold cont at c
   have e3:¬ bi b / 64*64=128:=by omega
   simp(disch:=omega)[Taa,Tad,Tab,Tbw,hb1,n192,m192,e3]
theorem Tgr (s:ByteArray)(at_:Nat)(n m f ls r:Int)(i:Nat)(h:¬ (i:Int)<n) :
 Code (EX cp) L_utf_long_0 (stLong s at_ n m f ls r i)=some (.ex 0,⟨[(0,.p (.sc (.string s))),(1,.p (pi at_)),(2,.p (pi n)),(7,.mp 7 0 0),(10,.p (pI .i32 r)),(11,.p (pi i)),(28,.p (pb false))],[(7,.row 270 3 false [[pI .u8 m,pI .u8 f,pI .i32 ls]])]⟩):=by
 rw[L_utf_long_0,Taf,stLong]
 simp(disch:=omega)[Taa,Tad]
theorem Tcg (s:ByteArray)(at_:Nat)(n m f ls:Int)(hat:at_<1099511627776)(hsz:s.size<1099511627776)(c: (s.size:Int)-at_<n) :
 Run (EX cp) 221 [.sc (.string s),pi at_,pi n,.st [pI .u8 m,pI .u8 f,pI .i32 ls]]=some (.val (.tu [pI .i32 0,pi 0])):=by
 rw[Tah _ A_utf_long _ rfl rfl rfl]
 simp(disch:=omega)[A_utf_long,Taa,Tad,Tab,c]
theorem Td8 (s:ByteArray)(at_:Nat)(n m f ls:Int)(hat:at_<1099511627776)(hsz:s.size<1099511627776)(a:UInt8)(t:List UInt8)(hd: (L s).drop at_=a::t)(x:Int)(hx:bits .andNot .u8 (bi a) m=x)(x0:0<=x)(x1:x<256)(c:¬ (s.size:Int)-at_<n)
 (hl:Code (EX cp) L_utf_long_0 (stLong s at_ n m f ls x (1:Nat))=some (.ret,⟨[(8,.p (pI .i32 0)),(9,.p (pi 0))],[]⟩)) :
 Run (EX cp) 221 [.sc (.string s),pi at_,pi n,.st [pI .u8 m,pI .u8 f,pI .i32 ls]]=some (.val (.tu [pI .i32 0,pi 0])):=by
 obtain⟨hb1,hlt,_⟩:=bt_at s at_ a t hd
 simp only[stLong,Int.ofNat_one]at hl
 rw[Tah _ A_utf_long _ rfl rfl rfl]
 simp(disch:=omega)[A_utf_long,Taa,Tad,Tab,Tbw,c,hb1,hx,hl]
theorem Tki (s:ByteArray)(at_:Nat)(n m f ls r:Int)(i:Nat)(hat:at_<1099511627776)(hsz:s.size<1099511627776)(a:UInt8)(t:List UInt8)(hd: (L s).drop at_=a::t)(x:Int)(hx:bits .andNot .u8 (bi a) m=x)(x0:0<=x)(x1:x<256)(c:¬ (s.size:Int)-at_<n)
 (hl:Code (EX cp) L_utf_long_0 (stLong s at_ n m f ls x (1:Nat))=some (.ex 0,⟨[(0,.p (.sc (.string s))),(1,.p (pi at_)),(2,.p (pi n)),(7,.mp 7 0 0),(10,.p (pI .i32 r)),(11,.p (pi i)),(28,.p (pb false))],[(7,.row 270 3 false [[pI .u8 m,pI .u8 f,pI .i32 ls]])]⟩)) :
 Run (EX cp) 221 [.sc (.string s),pi at_,pi n,.st [pI .u8 m,pI .u8 f,pI .i32 ls]]=if ls<=r/\sc r then some (.val (.tu [pI .i32 r,pi n]))else some (.val (.tu [pI .i32 0,pi 0])):=by
 obtain⟨hb1,hlt,_⟩:=bt_at s at_ a t hd
 have hp:=isPoint (cp:=cp) r
 simp only[stLong,Int.ofNat_one]at hl
 rw[Tah _ A_utf_long _ rfl rfl rfl]
 by_cases c1:r<ls
 · rw[if_neg (by omega)]
   simp(disch:=omega)[A_utf_long,Taa,Tad,Tab,Tbw,c,hb1,hx,hl,c1]
 · by_cases c2:sc r
   · rw[if_pos ⟨by omega,c2⟩]
     simp(disch:=omega)[A_utf_long,Taa,Tad,Tab,Tbw,c,hb1,hx,hl,c1,hp,c2]
   · rw[if_neg (fun h=>c2 h.2)]
     simp(disch:=omega)[A_utf_long,Taa,Tad,Tab,Tbw,c,hb1,hx,hl,c1,hp,c2]
def big:Nat:=1099511627776
def rDec (d:Nat×Int):Option Ret:=some (.val (.tu [pI .i32 d.2,pi d.1]))
theorem long1 (s:ByteArray)(i:Nat)(hs:s.size<1099511627776)(a:UInt8)(t:List UInt8)(hd: (L s).drop i=a::t)(ha:bi a<128) :
 Run (EX cp) 221 [.sc (.string s),pi i,pi 1,.st [pI .u8 128,pI .u8 0,pI .i32 0]]=rDec (dec (a::t)):=by
 have hr:=Tal a
 have hlt:= (bt_at s i a t hd).2.1
 have e:=m128 a
 rw[Tki s i 1 128 0 0 (bi a) 1 (by omega) hs a t hd (bi a) (by omega) hr.1 hr.2 (by omega) (Tgr s i 1 128 0 0 (bi a) 1 (by omega)),if_pos ⟨hr.1,.inl ⟨hr.1,by omega⟩⟩]
 rw[dec.eq_def]; simp only; rw[if_pos ha]; rfl
theorem long2 (s:ByteArray)(i:Nat)(hs:s.size<1099511627776)(a:UInt8)(t:List UInt8)(hd: (L s).drop i=a::t)(h0:192<=bi a)(h1:bi a<224) :
 Run (EX cp) 221 [.sc (.string s),pi i,pi 2,.st [pI .u8 224,pI .u8 192,pI .i32 128]]=rDec (dec (a::t)):=by
 obtain⟨_,hi,hd1⟩:=bt_at s i a t hd
 have hr:=Tal a
 have hl:=Tgq s i _ hd (by omega)
 have e:=m224 a
 rw[dec.eq_def]; simp only
 rw[if_neg (by omega),if_neg (by omega),if_pos h1]
 match t,hd,hd1,hl with
 | [],hd,_,hl=>exact Tcg s i 2 224 192 128 (by omega) hs (by simp at hl; omega)
 | p::t,hd,hd1,hl =>
  have hp:=Tal p
  have e2: (bi a % 32)*64+ (bi p-128)=v2 a p:=by unfold v2; omega
  have hst:=Tdb (cp:=cp) s i 2 224 192 128 (bi a % 32) 1 (by omega) (by omega) (by omega) p t hd1 (by omega) (by omega)
  dsimp only
  by_cases c:cont p
  · rw[if_pos c,e2]at hst
    unfold cont at c
    rw[show((1:Nat):Int)+1= ((2:Nat):Int)from rfl,Tgr s i 2 224 192 128 (v2 a p) 2 (by omega)]at hst
    rw[Tki s i 2 224 192 128 (v2 a p) 2 (by omega) hs a (p::t) hd (bi a % 32) e (by omega) (by omega) (by simp at hl; omega) hst]
    by_cases d:128<=v2 a p
    · rw[if_pos ⟨d,.inl ⟨by omega,by rw[← e2]; omega⟩⟩,if_pos ⟨c,d⟩]; rfl
    · rw[if_neg (fun h=>d h.1),if_neg (fun h=>d h.2)]; rfl
  · rw[if_neg c]at hst
    rw[Td8 s i 2 224 192 128 (by omega) hs a (p::t) hd (bi a % 32) e (by omega) (by omega) (by simp at hl; omega) hst,if_neg (fun h=>c h.1)]; rfl
theorem long3 (s:ByteArray)(i:Nat)(hs:s.size<1099511627776)(a:UInt8)(t:List UInt8)(hd: (L s).drop i=a::t)(h0:224<=bi a)(h1:bi a<240) :
 Run (EX cp) 221 [.sc (.string s),pi i,pi 3,.st [pI .u8 240,pI .u8 224,pI .i32 2048]]=rDec (dec (a::t)):=by
 obtain⟨_,hi,hd1⟩:=bt_at s i a t hd
 have hr:=Tal a
 have hl:=Tgq s i _ hd (by omega)
 have e:=m240 a
 rw[dec.eq_def]; simp only
 rw[if_neg (by omega),if_neg (by omega),if_neg (by omega),if_pos h1]
 match t,hd,hd1,hl with
 | [],hd,_,hl=>exact Tcg s i 3 240 224 2048 (by omega) hs (by simp at hl; omega)
 | [p],hd,_,hl=>exact Tcg s i 3 240 224 2048 (by omega) hs (by simp at hl; omega)
 | p::q::t,hd,hd1,hl =>
  obtain⟨_,hi1,hd2⟩:=bt_at s (i+1) p _ hd1
  have hp:=Tal p
  have hq:=Tal q
  have e2: ((bi a % 16)*64+ (bi p-128))*64+ (bi q-128)=v3 a p q:=by unfold v3; omega
  have hst:=Tdb (cp:=cp) s i 3 240 224 2048 (bi a % 16) 1 (by omega) (by omega) (by omega) p _ hd1 (by omega) (by omega)
  dsimp only
  by_cases c:cont p
  · rw[if_pos c]at hst
    have c':=c
    unfold cont at c'
    rw[show((1:Nat):Int)+1= ((2:Nat):Int)from rfl,Tdb s i 3 240 224 2048 _ 2 (by omega) (by omega) (by omega) q _ hd2 (by omega) (by omega),e2]at hst
    by_cases c2:cont q
    · rw[if_pos c2]at hst
      have c2':=c2
      unfold cont at c2'
      rw[show((2:Nat):Int)+1= ((3:Nat):Int)from rfl,Tgr s i 3 240 224 2048 (v3 a p q) 3 (by omega)]at hst
      rw[Tki s i 3 240 224 2048 (v3 a p q) 3 (by omega) hs a (p::q::t) hd (bi a % 16) e (by omega) (by omega) (by simp at hl; omega) hst]
      by_cases d:2048<=v3 a p q/\¬ (55296<=v3 a p q/\v3 a p q<=57343)
      · rw[if_pos ⟨d.1,by unfold sc; omega⟩,if_pos ⟨c,c2,d.1,d.2⟩]; rfl
      · rw[if_neg (by unfold sc; omega),if_neg (fun h=>d ⟨h.2.2.1,h.2.2.2⟩)]; rfl
    · rw[if_neg c2]at hst
      rw[Td8 s i 3 240 224 2048 (by omega) hs a (p::q::t) hd (bi a % 16) e (by omega) (by omega) (by simp at hl; omega) hst,if_neg (fun h=>c2 h.2.1)]; rfl
  · rw[if_neg c]at hst
    rw[Td8 s i 3 240 224 2048 (by omega) hs a (p::q::t) hd (bi a % 16) e (by omega) (by omega) (by simp at hl; omega) hst,if_neg (fun h=>c h.1)]; rfl
theorem long4 (s:ByteArray) (i:Nat) (hs:s.size<1099511627776) (a:UInt8) (t:List UInt8) (hd: (L s).drop i=a::t) (h0:240<=bi a) (h1:bi a<248) :
 Run (EX cp) 221 [.sc (.string s),pi i,pi 4,.st [pI .u8 248,pI .u8 240,pI .i32 65536]]=rDec (dec (a::t)):=by
 obtain⟨_,hi,hd1⟩:=bt_at s i a t hd
 have hr:=Tal a
 have hl:=Tgq s i _ hd (by omega)
 have e:=m248 a
 rw[dec.eq_def]; simp only
 rw[if_neg (by omega),if_neg (by omega),if_neg (by omega),if_neg (by omega),if_pos h1]
 match t,hd,hd1,hl with
 | [],hd,_,hl=>exact Tcg s i 4 248 240 65536 (by omega) hs (by simp at hl; omega)
 | [p],hd,_,hl=>exact Tcg s i 4 248 240 65536 (by omega) hs (by simp at hl; omega)
 | [p,q],hd,_,hl=>exact Tcg s i 4 248 240 65536 (by omega) hs (by simp at hl; omega)
 | p :: q::r::t,hd,hd1,hl =>
  obtain⟨_,hi1,hd2⟩:=bt_at s (i+1) p _ hd1
  obtain⟨_,hi2,hd3⟩:=bt_at s (i+1+1) q _ hd2
  have hp:=Tal p
  have hq:=Tal q
  have hr3:=Tal r
  have e2: (((bi a % 8)*64+ (bi p-128))*64+ (bi q-128))*64+ (bi r-128)=v4 a p q r:=by unfold v4; omega
  have hst:=Tdb (cp:=cp) s i 4 248 240 65536 (bi a % 8) 1 (by omega) (by omega) (by omega) p _ hd1 (by omega) (by omega)
  dsimp only
  by_cases c:cont p
  · rw[if_pos c]at hst
    have c':=c
    unfold cont at c'
    rw[show((1:Nat):Int)+1= ((2:Nat):Int)from rfl,Tdb s i 4 248 240 65536 _ 2 (by omega) (by omega) (by omega) q _ hd2 (by omega) (by omega)]at hst
    by_cases c2:cont q
    · rw[if_pos c2]at hst
      have c2':=c2
      unfold cont at c2'
      rw[show((2:Nat):Int)+1= ((3:Nat):Int)from rfl,Tdb s i 4 248 240 65536 _ 3 (by omega) (by omega) (by omega) r _ hd3 (by omega) (by omega),e2]at hst
      by_cases c3:cont r
      · rw[if_pos c3]at hst
        have c3':=c3
        unfold cont at c3'
        rw[show((3:Nat):Int)+1= ((4:Nat):Int)from rfl,Tgr s i 4 248 240 65536 (v4 a p q r) 4 (by omega)]at hst
        rw[Tki s i 4 248 240 65536 (v4 a p q r) 4 (by omega) hs a (p::q::r::t) hd (bi a % 8) e (by omega) (by omega) (by simp at hl; omega) hst]
        by_cases d:65536<=v4 a p q r/\v4 a p q r<=1114111
        · rw[if_pos ⟨d.1,by unfold sc; omega⟩,if_pos ⟨c,c2,c3,d.1,d.2⟩]; rfl
        · rw[if_neg (by unfold sc; omega),if_neg (fun h=>d ⟨h.2.2.2.1,h.2.2.2.2⟩)]; rfl
      · rw[if_neg c3]at hst
        rw[Td8 s i 4 248 240 65536 (by omega) hs a (p::q::r::t) hd (bi a % 8) e (by omega) (by omega) (by simp at hl; omega) hst,if_neg (fun h=>c3 h.2.2.1)]; rfl
    · rw[if_neg c2]at hst
      rw[Td8 s i 4 248 240 65536 (by omega) hs a (p::q::r::t) hd (bi a % 8) e (by omega) (by omega) (by simp at hl; omega) hst,if_neg (fun h=>c2 h.2.1)]; rfl
  · rw[if_neg c]at hst
    rw[Td8 s i 4 248 240 65536 (by omega) hs a (p::q::r::t) hd (bi a % 8) e (by omega) (by omega) (by simp at hl; omega) hst,if_neg (fun h=>c h.1)]; rfl
def formsV:List PV:= [pI .u8 128,pI .u8 0,pI .i32 0,pI .u8 224,pI .u8 192,pI .i32 128,pI .u8 240,pI .u8 224,pI .i32 2048,pI .u8 248,pI .u8 240,pI .i32 65536]
def stPoint (s:ByteArray)(i k:Int):St:= ⟨[(0,.p (.sc (.string s))),(1,.p (pi i)),(16,.p (.st formsV)),(17,.p (pi k))],[]⟩
theorem Tfe (s:ByteArray)(i:Nat)(k:Nat)(hk:k<4)(m f ls:Int)(hf: (formsV.drop (k*3)).take 3= [pI .u8 m,pI .u8 f,pI .i32 ls])(a:UInt8)(t:List UInt8)(hd: (L s).drop i=a::t)(hx:bits .and .u8 (bi a) m=f)(d:Nat×Int)
 (hr:Run (EX cp) 221 [.sc (.string s),pi i,pi ((k:Int)+1),.st [pI .u8 m,pI .u8 f,pI .i32 ls]]=rDec d) :
 Code (EX cp) L_utf_point_0 (stPoint s i k)=some (.ret,⟨[(4,.p (pI .i32 d.2)),(5,.p (pi d.1))],[]⟩):=by
 obtain⟨hb,_⟩:=bt_at s i a t hd
 unfold rDec at hr
 have hfl:k*3+3<=formsV.length:=by simp[formsV]; omega
 rw[L_utf_point_0,Taf,stPoint]
 simp(disch:=omega)[Taa,Tad,Tab,hf,hfl,hk,hb,hx,hr]
theorem Td9 (s:ByteArray)(i:Nat)(k:Nat)(hk:k<4)(m f ls:Int)(hf: (formsV.drop (k*3)).take 3= [pI .u8 m,pI .u8 f,pI .i32 ls])(a:UInt8)(t:List UInt8)(hd: (L s).drop i=a::t)(hx:¬ bits .and .u8 (bi a) m=f) :
 Code (EX cp) L_utf_point_0 (stPoint s i k)=Code (EX cp) L_utf_point_0 (stPoint s i ((k:Int)+1)):=by
 obtain⟨hb,_⟩:=bt_at s i a t hd
 have hfl:k*3+3<=formsV.length:=by simp[formsV]; omega
 conv=>lhs; rw[L_utf_point_0,Taf,stPoint]
 simp(disch:=omega)[Taa,Tad,Tab,hf,hfl,hk,hb,hx]
 rw[L_utf_point_0,stPoint]
theorem Ttv (s:ByteArray)(i:Int):Code (EX cp) L_utf_point_0 (stPoint s i (4:Nat))=some (.ex 0,⟨[(0,.p (.sc (.string s))),(1,.p (pi i)),(16,.p (.st formsV)),(17,.p (pi 4)),(18,.p (pb false))],[]⟩):=by
 rw[L_utf_point_0,Taf,stPoint]
 simp
theorem Ttw (s:ByteArray)(i:Nat)(a:UInt8)(t:List UInt8)(hd: (L s).drop i=a::t)(hs:s.size<1099511627776) :
 Code (EX cp) L_utf_point_0 (stPoint s i (0:Nat))= (if bi a<128∨192<=bi a/\bi a<248 then some (.ret,⟨[(4,.p (pI .i32 (dec (a::t)).2)),(5,.p (pi (dec (a::t)).1))],[]⟩)else some (.ex 0,⟨[(0,.p (.sc (.string s))),(1,.p (pi i)),(16,.p (.st formsV)),(17,.p (pi 4)),(18,.p (pb false))],[]⟩)):=by
 have hr:=Tal a
 have e1:=n128 a
 have e2:=n224 a
 have e3:=n240 a
 have e4:=n248 a
 by_cases c1:bi a<128
 · rw[if_pos (.inl c1)]
   exact Tfe s i 0 (by omega) 128 0 0 rfl a t hd (by omega) _ (long1 s i hs a t hd c1)
 rw[Td9 s i 0 (by omega) 128 0 0 rfl a t hd (by omega)]
 by_cases c2:192<=bi a/\bi a<224
 · rw[if_pos (.inr ⟨c2.1,by omega⟩)]
   exact Tfe s i 1 (by omega) 224 192 128 rfl a t hd (by omega) _ (long2 s i hs a t hd c2.1 c2.2)
 rw[show((0:Nat):Int)+1= ((1:Nat):Int)from rfl,Td9 s i 1 (by omega) 224 192 128 rfl a t hd (by omega)]
 by_cases c3:224<=bi a/\bi a<240
 · rw[if_pos (.inr ⟨by omega,by omega⟩)]
   exact Tfe s i 2 (by omega) 240 224 2048 rfl a t hd (by omega) _ (long3 s i hs a t hd c3.1 c3.2)
 rw[show((1:Nat):Int)+1= ((2:Nat):Int)from rfl,Td9 s i 2 (by omega) 240 224 2048 rfl a t hd (by omega)]
 by_cases c4:240<=bi a/\bi a<248
 · rw[if_pos (.inr ⟨by omega,by omega⟩)]
   exact Tfe s i 3 (by omega) 248 240 65536 rfl a t hd (by omega) _ (long4 s i hs a t hd c4.1 c4.2)
 rw[show((2:Nat):Int)+1= ((3:Nat):Int)from rfl,Td9 s i 3 (by omega) 248 240 65536 rfl a t hd (by omega)]
 rw[if_neg (by omega)]
 exact Ttv s i
def decAt (s:ByteArray)(i:Int):Nat×Int:=if i<0 then(0,0)else dec ((L s).drop i.toNat)
theorem point (s:ByteArray)(i:Int)(hs:s.size<1099511627776):Run (EX cp) 200 [.sc (.string s),pi i]=rDec (decAt s i):=by
 unfold decAt
 rw[Tah _ A_utf_point _ rfl rfl rfl]
 by_cases c0:i<0
 · rw[if_pos c0]
   simp(disch:=omega)[A_utf_point,Taa,Tad,rDec]
 rw[if_neg c0]
 by_cases c1: (s.size:Int)<=i
 · have h0:dec ((L s).drop i.toNat)= (0,0):=by rw[Tbx s _ (by omega)]; rfl
   simp(disch:=omega)[A_utf_point,Taa,Tad,rDec,h0]
 obtain⟨n,rfl⟩:∃ n:Nat,i=n:= ⟨i.toNat,by omega⟩
 simp only[Int.toNat_natCast]
 obtain⟨a,t,hd⟩:=Tet s n (by omega)
 have hl:=Ttw (cp:=cp) s n a t hd hs
 rw[hd]
 simp only[stPoint,Int.ofNat_zero,formsV]at hl
 by_cases c2:bi a<128∨192<=bi a/\bi a<248
 · rw[if_pos c2]at hl
   simp(disch:=omega)[A_utf_point,Taa,Tad,rDec,hl]
 · rw[if_neg c2]at hl
   have:dec (a::t)= (0,0):=by
    rw[dec.eq_def]; simp only
    by_cases c5:bi a<192
    · rw[if_neg (by omega),if_pos c5]
    · rw[if_neg (by omega),if_neg c5,if_neg (by omega),if_neg (by omega),if_neg (by omega)]
   simp(disch:=omega)[A_utf_point,Taa,Tad,rDec,hl,this]
def sizeAt (s:ByteArray)(i:Int):Nat:= (decAt s i).1
theorem utfSize (s:ByteArray)(i:Int)(hs:s.size<1099511627776):Run (EX cp) 153 [.sc (.string s),pi i]=some (.val (pi (sizeAt s i))):=by
 have h:=point (cp:=cp) s i hs
 unfold rDec at h
 rw[Tah _ A_utf_Size _ rfl rfl rfl]
 simp[A_utf_Size,h,sizeAt]
theorem Tbe (s:ByteArray)(i:Nat):decAt s (i:Int)=dec ((L s).drop i):=by
 unfold decAt
 rw[if_neg (by omega),Int.toNat_natCast]
theorem Td2 (s:ByteArray)(i:Nat)(h:i<=s.size):i+sizeAt s i<=s.size/\sizeAt s i<=4:=by
 unfold sizeAt
 rw[Tbe]
 have:=T3g ((L s).drop i)
 rw[List.length_drop,L_len]at this
 omega
theorem Tgs (s:ByteArray)(i:Nat)(h:i<s.size):valid ((L s).drop i)=if sizeAt s i=0 then false else valid ((L s).drop (i+sizeAt s i)):=by
 obtain⟨a,t,hd⟩:=Tet s i h
 unfold sizeAt
 rw[Tbe,hd,Tf2]
 by_cases c: (dec (a::t)).1=0
 · rw[dif_pos c,if_pos c]
 · rw[dif_neg c,if_neg c,← hd,List.drop_drop]
theorem Th0 (s:ByteArray)(i:Nat)(h:i<s.size):points ((L s).drop i)=if sizeAt s i=0 then 65533::points ((L s).drop (i+1))else(decAt s i).2::points ((L s).drop (i+sizeAt s i)):=by
 obtain⟨a,t,hd⟩:=Tet s i h
 have ht:= (bt_at s i a t hd).2.2
 unfold sizeAt
 rw[Tbe,hd,Ter]
 by_cases c: (dec (a::t)).1=0
 · rw[dif_pos c,if_pos c,ht]
 · rw[dif_neg c,if_neg c,← hd,List.drop_drop]
theorem Ttx (s:ByteArray)(i:Int):0<= (decAt s i).2/\ (decAt s i).2<=1114111∨ (decAt s i).1=0:=by
 by_cases c: (decAt s i).1=0
 · exact .inr c
 · left
   unfold decAt at c ⊢
   split at c
   · simp at c
   · rename_i h
     rw[if_neg h]
     have:=Tts _ c
     unfold sc at this
     omega
theorem Tqy (s:ByteArray)(hs:s.size<1099511627776):∀(m i:Nat),s.size<=i+m->i<=s.size->Code (EX cp) L_utf_Valid_0 ⟨[(0,.p (.sc (.string s))),(3,.p (pi i))],[]⟩ =
 if valid ((L s).drop i)=true then some (.ex 0,⟨[(0,.p (.sc (.string s))),(3,.p (pi s.size)),(8,.p (pb false))],[]⟩)else some (.ret,⟨[(2,.p (pb false))],[]⟩):=by
 intro m
 induction m with
 | zero =>
  intro i h1 h2
  have:i=s.size:=by omega
  subst this
  rw[Tbx s _ (Nat.le_refl _),Ta0,L_utf_Valid_0,Taf]
  simp
 | succ m ih =>
  intro i h1 h2
  by_cases hlt:i<s.size
  · have hz:=utfSize (cp:=cp) s i hs
    have hle:=Td2 s i h2
    rw[Tgs s i hlt]
    by_cases c:sizeAt s i=0
    · rw[if_pos c,L_utf_Valid_0,Taf]
      simp(disch:=omega)[Taa,Tad,hlt,hz,c]
    · have ih':=ih (i+sizeAt s i) (by omega) (by omega)
      have hc:¬ ((sizeAt s i:Nat):Int)=0:=by omega
      rw[if_neg c,← ih',L_utf_Valid_0,Taf]
      simp(disch:=omega)[Taa,Tad,hlt,hz,hc,Tab,c]
  · have:i=s.size:=by omega
    subst this
    rw[Tbx s _ (Nat.le_refl _),Ta0,L_utf_Valid_0,Taf]
    simp
theorem utfValid (s:ByteArray)(hs:s.size<1099511627776):Run (EX cp) 89 [.sc (.string s)]=some (.val (pb (valid (L s)))):=by
 have h:=Tqy (cp:=cp) s hs s.size 0 (by omega) (by omega)
 rw[Tah _ A_utf_Valid _ rfl rfl rfl]
 simp only[List.drop_zero,Int.ofNat_zero,Int.natCast_zero]at h
 cases hv:valid (L s)with
 | true=>rw[hv,if_pos rfl]at h; simp[A_utf_Valid,h]
 | false=>rw[hv,if_neg (by simp)]at h; simp[A_utf_Valid,h]
def edge (s:ByteArray)(i:Int):Bool:=decide (0<=i/\i<=s.size)&& (decide (i=s.size)|| (match (L s)[i.toNat]? with | some b=> !decide (cont b) | none=>false))&&valid (L s)
theorem T1j (s:ByteArray)(i:Nat)(a:UInt8)(t:List UInt8)(hd: (L s).drop i=a::t):edge s i= (!decide (cont a)&&valid (L s)):=by
 obtain⟨_,hlt,_⟩:=bt_at s i a t hd
 have hg: (L s)[i]?=some a:=by
  have:=congrArg (·[0]?) hd
  simpa using this
 unfold edge
 rw[Int.toNat_natCast,hg,decide_eq_true (show(0:Int)<= (i:Int)/\ (i:Int)<= (s.size:Int)by omega),decide_eq_false (show ¬ (i:Int)= (s.size:Int)by omega)]
 simp
theorem To9 (s:ByteArray)(i:Int)(h:¬ (0<=i/\i<=s.size)):edge s i=false:=by
 unfold edge; rw[decide_eq_false h]; rfl
theorem Tpa (s:ByteArray):edge s s.size=valid (L s):=by
 unfold edge
 rw[decide_eq_true (show(0:Int)<= (s.size:Int)/\ (s.size:Int)<= (s.size:Int)by omega),decide_eq_true (show(s.size:Int)= (s.size:Int)from rfl)]
 simp
theorem utfIsEdge (s:ByteArray)(i:Int)(hs:s.size<1099511627776):Run (EX cp) 81 [.sc (.string s),pi i]=some (.val (pb (edge s i))):=by
 have hv:=utfValid (cp:=cp) s hs
 rw[Tah _ A_utf_IsEdge _ rfl rfl rfl]
 by_cases c0:0<=i
 · by_cases c1:i<=s.size
   · by_cases c2:i=s.size
     · subst c2
       rw[Tpa]
       simp(disch:=omega)[A_utf_IsEdge,Taa,Tad,hv]
     · obtain⟨n,rfl⟩:∃ n:Nat,i=n:= ⟨i.toNat,by omega⟩
       obtain⟨a,t,hd⟩:=Tet s n (by omega)
       have hb:= (bt_at s n a t hd).1
       have hr:=Tal a
       rw[T1j s n a t hd]
       by_cases c:cont a
       · have e3:bi a / 64*64=128:=by unfold cont at c; omega
         simp(disch:=omega)[A_utf_IsEdge,Taa,Tad,hv,hb,n192,e3,c]
       · have e3:¬ bi a / 64*64=128:=by unfold cont at c; omega
         simp(disch:=omega)[A_utf_IsEdge,Taa,Tad,hv,hb,n192,e3,c]
   · rw[To9 s i (by omega)]
     simp(disch:=omega)[A_utf_IsEdge,Taa,Tad]
 · rw[To9 s i (by omega)]
   simp(disch:=omega)[A_utf_IsEdge,Taa,Tad]
@[simp] theorem T4o (l:List Int): (ints l).length=l.length:=by simp[ints]
@[simp] theorem T4p:ints []= []:=rfl
@[simp] theorem T3o (l:List Int)(x:Int):ints l++ [[pi x]]=ints (l++ [x]):=by simp[ints]
@[simp] theorem T3p (l:List Int): (ints l).take l.length=ints l:=by rw[List.take_of_length_le (by simp)]
theorem Txr (l:List Int)(n:Nat): (ints l)[n]?= (l[n]?).map fun x=> [pi x]:=by simp[ints]
theorem Tf3 (l:List Int)(n:Nat)(h:n<l.length): (ints l)[n]?=some [pi l[n]]:=by rw[Txr,List.getElem?_eq_getElem h]; rfl
theorem Tne (s:ByteArray)(hs:s.size<1099511627776):∀(m i:Nat) (acc:List Int),s.size<=i+m->i<=s.size->acc.length<=i->Code (EX cp) L_utf_Points_0 ⟨[(0,.p (.sc (.string s))),(3,.ms 3 0 acc.length),(4,.p (pi i))],[(3,.row 3 1 false (ints acc))]⟩ =
 some (.ex 0,⟨[(0,.p (.sc (.string s))),(3,.ms 3 0 (acc++points ((L s).drop i)).length),(4,.p (pi s.size)),(10,.p (pb false))],[(3,.row 3 1 false (ints (acc++points ((L s).drop i))))]⟩):=by
 intro m
 induction m with
 | zero =>
  intro i acc h1 h2 h3
  have:i=s.size:=by omega
  subst this
  rw[Tbx s _ (Nat.le_refl _),Tba,L_utf_Points_0,Taf]
  simp
 | succ m ih =>
  intro i acc h1 h2 h3
  by_cases hlt:i<s.size
  · have hz:=point (cp:=cp) s i hs
    have hle:=Td2 s i h2
    have hr:=Ttx s i
    have hcap: (acc.length+1)*8<=maxBytes/\acc.length+1<=9223372036854775807:=by unfold maxBytes; omega
    rw[Th0 s i hlt]
    unfold rDec at hz
    by_cases c:sizeAt s i=0
    · have ih':=ih (i+1) (acc++ [65533]) (by omega) (by omega) (by simp; omega)
      have c': (decAt s i).1=0:=c
      rw[if_pos c]
      have e:acc++65533::points ((L s).drop (i+1))= (acc++ [65533])++points ((L s).drop (i+1)):=by simp
      rw[e,← ih',L_utf_Points_0,Taf]
      simp(disch:=omega)[Taa,Tad,hlt,hz,c',Tab,hcap]
    · have ih':=ih (i+sizeAt s i) (acc++ [(decAt s i).2]) (by omega) (by omega) (by simp; omega)
      have hsz: (decAt s i).1=sizeAt s i:=rfl
      have hc:¬ ((sizeAt s i:Nat):Int)=0:=by omega
      rw[if_neg c]
      have e:acc++ (decAt s i).2::points ((L s).drop (i+sizeAt s i))= (acc++ [(decAt s i).2])++points ((L s).drop (i+sizeAt s i)):=by simp
      rw[e,← ih',L_utf_Points_0,Taf]
      simp(disch:=omega)[Taa,Tad,hlt,hz,hsz,hc,c,Tab,hcap]
  · have:i=s.size:=by omega
    subst this
    rw[Tbx s _ (Nat.le_refl _),Tba,L_utf_Points_0,Taf]
    simp
theorem utfPoints (s:ByteArray)(hs:s.size<1099511627776):Run (EX cp) 174 [.sc (.string s)]=some (.own 3 1 (ints (points (L s)))):=by
 have h:=Tne (cp:=cp) s hs s.size 0 [] (by omega) (by omega) (by simp)
 rw[Tah _ A_utf_Points _ rfl rfl rfl]
 simp at h
 simp[A_utf_Points,h]
def mk1 (n:Int):Int:=if sc n then n else 65533
def mks (l:List Int):List UInt8:=encs (l.map mk1)
theorem Txs (l:List Int)(n:Int):mks (l++ [n])=mks l++enc (mk1 n):=by simp[mks,encs]
theorem T1k (l:List Int): (mks l).length<=4*l.length:=by
 induction l with
 | nil=>simp[mks]
 | cons a l ih =>
  have:= (Tb7 (mk1 a)).2
  simp only[mks,List.map_cons,Tc9,List.length_append,List.length_cons]at ih ⊢
  omega
theorem T1l (l:List Int)(h:∀ v∈l,sc v):mks l=encs l:=by
 unfold mks
 congr 1
 conv=>rhs; rw[← List.map_id l]
 refine List.map_congr_left fun v hv=> ?_
 unfold mk1; rw[if_pos (h v hv)]; rfl
theorem Tty (l:List Int) (hl:l.length<1099511627776):∀(m i:Nat),l.length<=i+m->i<=l.length->Code (EX cp) L_utf_Make_0 ⟨[(3,.mp 3 0 0),(7,.p (.sl 1 (ints l))),(8,.p (pi l.length)),(9,.p (pi i))],[(3,.dp 145 2 (sbRow 5 (bRows (mks (l.take i)))))]⟩ =
 some (.ex 0,⟨[(3,.mp 3 0 0),(7,.p (.sl 1 (ints l))),(8,.p (pi l.length)),(9,.p (pi l.length)),(10,.p (pb false))],[(3,.dp 145 2 (sbRow 5 (bRows (mks l))))]⟩):=by
 intro m
 induction m with
 | zero =>
  intro i h1 h2
  have:i=l.length:=by omega
  subst this
  rw[List.take_length,L_utf_Make_0,Taf]
  simp
 | succ m ih =>
  intro i h1 h2
  by_cases hlt:i<l.length
  · have ih':=ih (i+1) (by omega) (by omega)
    have e:l.take (i+1)=l.take i++ [l[i]]:=List.take_succ_eq_append_getElem hlt
    rw[e,Txs]at ih'
    have hm:=T1k (l.take i)
    have hm2: (l.take i).length<=i:=List.length_take_le _ _
    have hen:= (Tb7 (mk1 l[i])).2
    have hg:=Tf3 l i hlt
    generalize l[i]=v at *
    generalize hacc:mks (l.take i)=acc at *
    have hp:=isPoint (cp:=cp) v
    have hcap:acc.length+ (enc (mk1 v)).length+4<=maxBytes:=by unfold maxBytes; omega
    rw[← ih',L_utf_Make_0,Taf]
    by_cases c:sc v
    · have e1:mk1 v=v:=if_pos c
      have c':=c
      unfold sc at c'
      rw[e1]at hcap ⊢
      have hcap2:acc.length+ (Lib.encodeRune v).length+4<=maxBytes:=hcap
      simp(disch:=omega)[Taa,Tad,hlt,hg,hp,c,Tab,Tbw,hcap2,Taj,enc]
    · have e1:mk1 v=65533:=if_neg c
      rw[e1]at hcap ⊢
      have hcap2:acc.length+ (Lib.encodeRune 65533).length+4<=maxBytes:=hcap
      by_cases c0:0<=v
      · by_cases c1:v<=1114111
        · simp(disch:=omega)[Taa,Tad,hlt,hg,hp,c,Tab,Tbw,hcap2,Taj,enc]
        · simp(disch:=omega)[Taa,Tad,hlt,hg,hp,c,Tab,Tbw,hcap2,Taj,enc]
      · simp(disch:=omega)[Taa,Tad,hlt,hg,hp,c,Tab,Tbw,hcap2,Taj,enc]
  · have:i=l.length:=by omega
    subst this
    rw[List.take_length,L_utf_Make_0,Taf]
    simp
theorem utfMake (l:List Int)(hl:l.length<1099511627776):Run (EX cp) 173 [.sl 1 (ints l)]=some (.val (.sc (.string ⟨(mks l).toArray⟩))):=by
 have h:=Tty (cp:=cp) l hl l.length 0 (by omega) (by omega)
 rw[Tah _ A_utf_Make _ rfl rfl rfl]
 simp[mks]at h
 simp[A_utf_Make,h,mks]
def cleanS (s:ByteArray):ByteArray:= ⟨(clean (L s)).toArray⟩
theorem utfClean (s:ByteArray)(hs:s.size<1099511627776):Run (EX cp) 118 [.sc (.string s)]=some (.val (.sc (.string (cleanS s)))):=by
 have h1:=utfValid (cp:=cp) s hs
 have h2:=utfPoints (cp:=cp) s hs
 have hle:=Tda (L s)
 rw[L_len]at hle
 have h3:=utfMake (cp:=cp) (points (L s)) (by omega)
 rw[T1l _ (Tcs _)]at h3
 rw[Tah _ A_utf_Clean _ rfl rfl rfl]
 cases hv:valid (L s)with
 | true =>
  rw[hv]at h1
  have:cleanS s=s:=by unfold cleanS; rw[Tbd _ hv,mk_L]
  simp[A_utf_Clean,h1,this]
 | false =>
  rw[hv]at h1
  simp[A_utf_Clean,h1,h2,h3,cleanS,clean]
theorem w63:∀ n:Nat,n<256->bits .and .i64 (n:Int) 63= (n % 64:Nat):=by decide +kernel
theorem w31:∀ n:Nat,n<256->bits .and .i64 (n:Int) 31= (n % 32:Nat):=by decide +kernel
theorem w15:∀ n:Nat,n<256->bits .and .i64 (n:Int) 15= (n % 16:Nat):=by decide +kernel
theorem w7:∀ n:Nat,n<256->bits .and .i64 (n:Int) 7= (n % 8:Nat):=by decide +kernel
theorem a63 (a:UInt8):bits .and .i64 (bi a) 63=bi a % 64:=by have:=w63 a.toNat a.toNat_lt; unfold bi; omega
theorem a31 (a:UInt8):bits .and .i64 (bi a) 31=bi a % 32:=by have:=w31 a.toNat a.toNat_lt; unfold bi; omega
theorem a15 (a:UInt8):bits .and .i64 (bi a) 15=bi a % 16:=by have:=w15 a.toNat a.toNat_lt; unfold bi; omega
theorem a7 (a:UInt8):bits .and .i64 (bi a) 7=bi a % 8:=by have:=w7 a.toNat a.toNat_lt; unfold bi; omega
theorem Ttz (n:Int)(h0:0<=n)(h1:n<2 ^ 62):IntKind.wrap .i64 n=n:=Tab n (by omega) (by omega)
theorem or6 (x y:Int)(hx₀:0<=x)(hx:x % 64=0)(hx₁:x<4611686018427387904)(h₀:0<=y)(h₁:y<64):bits .or .i64 x y=x+y :=
 bits_join .i64 62 (by decide) Ttz 6 x y hx₀ hx hx₁ h₀ h₁ (by omega)
theorem fdiv6 (a:UInt8): (bi a).fdiv 64=bi a / 64:=by
 have:=Tal a
 rw[Int.fdiv_eq_ediv_of_nonneg _ (by omega)]
def stSize (s:ByteArray)(i n v ls j:Int):St:= ⟨[(0,.p (.sc (.string s))),(1,.p (pi i)),(6,.p (pi n)),(7,.p (pi v)),(8,.p (pi ls)),(9,.p (pi j))],[]⟩
theorem Tdc (s:ByteArray)(i:Nat)(n v ls:Int)(j:Nat)(h: (j:Int)<n)(hi:i<1099511627776)(hj:j<=3)(b:UInt8)(t:List UInt8)(hb: (L s).drop (i+j)=b::t)(v0:0<=v)(v1:v<1000000) :
 Code (EX cp) L_ref1_Size_0 (stSize s i n v ls j)=if cont b then Code (EX cp) L_ref1_Size_0 (stSize s i n (v*64+ (bi b-128)) ls (j+1))else some (.ret,⟨[(4,.p (pi 0))],[]⟩):=by
 have hb1:=Tzg s ((i:Int)+j) (i+j) (by omega) b t hb
 have hr:=Tal b
 have e1:=a63 b
 have e4:=fdiv6 b
 rw[L_ref1_Size_0,Taf,stSize]
 by_cases c:cont b
 · rw[if_pos c]
   unfold cont at c
   have e2:bits .or .i64 (v*64) (bi b % 64)=v*64+ (bi b-128):=by
    rw[or6 (v*64) (bi b % 64) (by omega) (by omega) (by omega) (by omega) (by omega)]; omega
   have e3:bi b / 64=2:=by omega
   simp(disch:=omega)[Taa,Tad,Tab,hb1,a63,e1,e2,e3,e4,IntKind.bits,stSize]
 · rw[if_neg c]
   unfold cont at c
   have e3:¬ bi b / 64=2:=by omega
   simp(disch:=omega)[Taa,Tad,Tab,hb1,e3,e4,IntKind.bits]
theorem Tkj (s:ByteArray)(i n v ls j:Int)(h:¬ j<n):Code (EX cp) L_ref1_Size_0 (stSize s i n v ls j)=some (.ex 1,⟨[(0,.p (.sc (.string s))),(1,.p (pi i)),(6,.p (pi n)),(7,.p (pi v)),(8,.p (pi ls)),(9,.p (pi j)),(61,.p (pb false))],[]⟩):=by
 rw[L_ref1_Size_0,Taf,stSize]
 simp(disch:=omega)[Taa,Tad]
inductive Head (a:UInt8):Int->Int->Int->Prop
 | two:192<=bi a->bi a<224->Head a 2 (bi a % 32) 128
 | three:224<=bi a->bi a<240->Head a 3 (bi a % 16) 2048
 | four:240<=bi a->bi a<248->Head a 4 (bi a % 8) 65536
theorem Th1 (s:ByteArray)(i:Nat)(hs:s.size<1099511627776)(a:UInt8)(t:List UInt8)(hd: (L s).drop i=a::t)(n v ls:Int)(hh:Head a n v ls) :
 Code (EX cp) A_ref1_Size.body ⟨entry 0 [.sc (.string s),pi i],[]⟩=Code (EX cp) (tailN 5 A_ref1_Size.body) ⟨[(0,.p (.sc (.string s))),(1,.p (pi i)),(6,.p (pi n)),(7,.p (pi v)),(8,.p (pi ls))],[]⟩:=by
 obtain⟨hb,hlt,_⟩:=bt_at s i a t hd
 have hr:=Tal a
 have e1:=a31 a; have e2:=a15 a; have e3:=a7 a
 refine Tjd _ 5 _ _ _ ?_
 cases hh with
 | two h0 h1=>simp(disch:=omega)[A_ref1_Size,headN,Taa,Tad,Tab,hb,e1]
 | three h0 h1=>simp(disch:=omega)[A_ref1_Size,headN,Taa,Tad,Tab,hb,e2]
 | four h0 h1=>simp(disch:=omega)[A_ref1_Size,headN,Taa,Tad,Tab,hb,e3]
theorem Tci (s:ByteArray)(i:Nat)(hs:s.size<1099511627776)(a:UInt8)(t:List UInt8)(hd: (L s).drop i=a::t)(n v ls:Int)(hh:Head a n v ls)(c: (s.size:Int)-i<n):Run (EX cp) 40 [.sc (.string s),pi i]=some (.val (pi 0)):=by
 obtain⟨hb,hlt,_⟩:=bt_at s i a t hd
 rw[Tah _ A_ref1_Size _ rfl rfl rfl,Th1 s i hs a t hd n v ls hh]
 simp(disch:=omega)[A_ref1_Size,tailN,Taa,Tad,Tab]
theorem Tea (s:ByteArray)(i:Nat)(hs:s.size<1099511627776)(a:UInt8)(t:List UInt8)(hd: (L s).drop i=a::t)(n v ls:Int)(hh:Head a n v ls)(c:¬ (s.size:Int)-i<n)
 (hl:Code (EX cp) L_ref1_Size_0 (stSize s i n v ls (1:Nat))=some (.ret,⟨[(4,.p (pi 0))],[]⟩)):Run (EX cp) 40 [.sc (.string s),pi i]=some (.val (pi 0)):=by
 obtain⟨hb,hlt,_⟩:=bt_at s i a t hd
 simp only[stSize,Int.ofNat_one]at hl
 rw[Tah _ A_ref1_Size _ rfl rfl rfl,Th1 s i hs a t hd n v ls hh]
 simp(disch:=omega)[A_ref1_Size,tailN,Taa,Tad,Tab,hl]
def okv (ls v:Int):Prop:=ls<=v/\v<=1114111/\¬ (55296<=v/\v<57344)
instance (ls v:Int):Decidable (okv ls v):=by unfold okv; exact inferInstance
theorem Tnf (s:ByteArray)(i:Nat)(hs:s.size<1099511627776)(a:UInt8)(t:List UInt8)(hd: (L s).drop i=a::t)(n v ls:Int)(hh:Head a n v ls)(c:¬ (s.size:Int)-i<n)(x:Int)(j:Int)
 (hl:Code (EX cp) L_ref1_Size_0 (stSize s i n v ls (1:Nat))=some (.ex 1,⟨[(0,.p (.sc (.string s))),(1,.p (pi i)),(6,.p (pi n)),(7,.p (pi x)),(8,.p (pi ls)),(9,.p (pi j)),(61,.p (pb false))],[]⟩)):Run (EX cp) 40 [.sc (.string s),pi i]=some (.val (pi (if okv ls x then n else 0))):=by
 obtain⟨hb,hlt,_⟩:=bt_at s i a t hd
 simp only[stSize,Int.ofNat_one]at hl
 rw[Tah _ A_ref1_Size _ rfl rfl rfl,Th1 s i hs a t hd n v ls hh]
 by_cases c1:x<ls
 · rw[if_neg (fun h=>by unfold okv at h; omega)]
   simp(disch:=omega)[A_ref1_Size,tailN,Taa,Tad,Tab,hl]
 by_cases c2:1114111<x
 · rw[if_neg (fun h=>by unfold okv at h; omega)]
   simp(disch:=omega)[A_ref1_Size,tailN,Taa,Tad,Tab,hl]
 by_cases c3:55296<=x
 · by_cases c4:x<57344
   · rw[if_neg (fun h=>by unfold okv at h; omega)]
     simp(disch:=omega)[A_ref1_Size,tailN,Taa,Tad,Tab,hl]
   · rw[if_pos (by unfold okv; omega)]
     simp(disch:=omega)[A_ref1_Size,tailN,Taa,Tad,Tab,hl]
 · rw[if_pos (by unfold okv; omega)]
   simp(disch:=omega)[A_ref1_Size,tailN,Taa,Tad,Tab,hl]
theorem refSize (s:ByteArray) (i:Int) (hs:s.size<1099511627776):Run (EX cp) 40 [.sc (.string s),pi i]=some (.val (pi (sizeAt s i))):=by
 unfold sizeAt decAt
 by_cases c0:i<0
 · rw[if_pos c0,Tah _ A_ref1_Size _ rfl rfl rfl]
   simp(disch:=omega)[A_ref1_Size,Taa,Tad]
 rw[if_neg c0]
 by_cases c1: (s.size:Int)<=i
 · have h0:dec ((L s).drop i.toNat)= (0,0):=by rw[Tbx s _ (by omega)]; rfl
   rw[h0,Tah _ A_ref1_Size _ rfl rfl rfl]
   simp(disch:=omega)[A_ref1_Size,Taa,Tad]
 obtain⟨k,rfl⟩:∃ n:Nat,i=n:= ⟨i.toNat,by omega⟩
 simp only[Int.toNat_natCast]
 obtain⟨a,t,hd⟩:=Tet s k (by omega)
 obtain⟨hb,hlt,hd1⟩:=bt_at s k a t hd
 have hr:=Tal a
 have hlen:=Tgq s k _ hd (by omega)
 rw[hd]
 by_cases b1:bi a<128
 · have:dec (a::t)= (1,bi a):=by rw[dec.eq_def]; simp only; rw[if_pos b1]
   rw[this,Tah _ A_ref1_Size _ rfl rfl rfl]
   simp(disch:=omega)[A_ref1_Size,Taa,Tad,Tab,hb]
 by_cases b2:bi a<192
 · have:dec (a::t)= (0,0):=by rw[dec.eq_def]; simp only; rw[if_neg b1,if_pos b2]
   rw[this,Tah _ A_ref1_Size _ rfl rfl rfl]
   simp(disch:=omega)[A_ref1_Size,Taa,Tad,Tab,hb]
 by_cases b3:bi a<224
 · have hh:Head a 2 (bi a % 32) 128:= .two (by omega) b3
   rw[dec.eq_def]; simp only; rw[if_neg b1,if_neg b2,if_pos b3]
   match t,hd,hd1,hlen with
   | [],hd,_,hlen=>exact Tci s k hs a _ hd _ _ _ hh (by simp at hlen; omega)
   | p::t,hd,hd1,hlen =>
    have hp:=Tal p
    have e2: (bi a % 32)*64+ (bi p-128)=v2 a p:=by unfold v2; omega
    have hst:=Tdc (cp:=cp) s k 2 (bi a % 32) 128 1 (by omega) (by omega) (by omega) p t hd1 (by omega) (by omega)
    dsimp only
    have hc:¬ (s.size:Int)-k<2:=by simp at hlen; omega
    by_cases c:cont p
    · rw[if_pos c,e2,show((1:Nat):Int)+1=2 from rfl,Tkj s k 2 _ 128 2 (by omega)]at hst
      rw[Tnf s k hs a _ hd _ _ _ hh hc _ _ hst]
      have c':=c
      unfold cont at c'
      by_cases d:128<=v2 a p
      · rw[if_pos (by unfold okv; omega),if_pos ⟨c,d⟩]; rfl
      · rw[if_neg (fun h=>d h.1),if_neg (fun h=>d h.2)]; rfl
    · rw[if_neg c]at hst
      rw[Tea s k hs a _ hd _ _ _ hh hc hst,if_neg (fun h=>c h.1)]; rfl
 by_cases b4:bi a<240
 · have hh:Head a 3 (bi a % 16) 2048:= .three (by omega) b4
   rw[dec.eq_def]; simp only; rw[if_neg b1,if_neg b2,if_neg b3,if_pos b4]
   match t,hd,hd1,hlen with
   | [],hd,_,hlen=>exact Tci s k hs a _ hd _ _ _ hh (by simp at hlen; omega)
   | [p],hd,_,hlen=>exact Tci s k hs a _ hd _ _ _ hh (by simp at hlen; omega)
   | p::q::t,hd,hd1,hlen =>
    obtain⟨_,_,hd2⟩:=bt_at s (k+1) p _ hd1
    have hp:=Tal p
    have hq:=Tal q
    have e2: ((bi a % 16)*64+ (bi p-128))*64+ (bi q-128)=v3 a p q:=by unfold v3; omega
    have hst:=Tdc (cp:=cp) s k 3 (bi a % 16) 2048 1 (by omega) (by omega) (by omega) p _ hd1 (by omega) (by omega)
    dsimp only
    have hc:¬ (s.size:Int)-k<3:=by simp at hlen; omega
    by_cases c:cont p
    · have c':=c
      unfold cont at c'
      rw[if_pos c,show((1:Nat):Int)+1= ((2:Nat):Int)from rfl,Tdc s k 3 _ 2048 2 (by omega) (by omega) (by omega) q _ hd2 (by omega) (by omega),e2]at hst
      by_cases c2:cont q
      · have c2':=c2
        unfold cont at c2'
        rw[if_pos c2,show((2:Nat):Int)+1=3 from rfl,Tkj s k 3 _ 2048 3 (by omega)]at hst
        rw[Tnf s k hs a _ hd _ _ _ hh hc _ _ hst]
        by_cases d:2048<=v3 a p q/\¬ (55296<=v3 a p q/\v3 a p q<=57343)
        · rw[if_pos (by unfold okv; omega),if_pos ⟨c,c2,d.1,d.2⟩]; rfl
        · rw[if_neg (by unfold okv; omega),if_neg (fun h=>d ⟨h.2.2.1,h.2.2.2⟩)]; rfl
      · rw[if_neg c2]at hst
        rw[Tea s k hs a _ hd _ _ _ hh hc hst,if_neg (fun h=>c2 h.2.1)]; rfl
    · rw[if_neg c]at hst
      rw[Tea s k hs a _ hd _ _ _ hh hc hst,if_neg (fun h=>c h.1)]; rfl
 by_cases b5:bi a<248
 · have hh:Head a 4 (bi a % 8) 65536:= .four (by omega) b5
   rw[dec.eq_def]; simp only; rw[if_neg b1,if_neg b2,if_neg b3,if_neg b4,if_pos b5]
   match t,hd,hd1,hlen with
   | [],hd,_,hlen=>exact Tci s k hs a _ hd _ _ _ hh (by simp at hlen; omega)
   | [p],hd,_,hlen=>exact Tci s k hs a _ hd _ _ _ hh (by simp at hlen; omega)
   | [p,q],hd,_,hlen=>exact Tci s k hs a _ hd _ _ _ hh (by simp at hlen; omega)
   | p :: q::r::t,hd,hd1,hlen =>
    obtain⟨_,_,hd2⟩:=bt_at s (k+1) p _ hd1
    obtain⟨_,_,hd3⟩:=bt_at s (k+1+1) q _ hd2
    have hp:=Tal p
    have hq:=Tal q
    have hr3:=Tal r
    have e2: (((bi a % 8)*64+ (bi p-128))*64+ (bi q-128))*64+ (bi r-128)=v4 a p q r:=by unfold v4; omega
    have hst:=Tdc (cp:=cp) s k 4 (bi a % 8) 65536 1 (by omega) (by omega) (by omega) p _ hd1 (by omega) (by omega)
    dsimp only
    have hc:¬ (s.size:Int)-k<4:=by simp at hlen; omega
    by_cases c:cont p
    · have c':=c
      unfold cont at c'
      rw[if_pos c,show((1:Nat):Int)+1= ((2:Nat):Int)from rfl,Tdc s k 4 _ 65536 2 (by omega) (by omega) (by omega) q _ hd2 (by omega) (by omega)]at hst
      by_cases c2:cont q
      · have c2':=c2
        unfold cont at c2'
        rw[if_pos c2,show((2:Nat):Int)+1= ((3:Nat):Int)from rfl,Tdc s k 4 _ 65536 3 (by omega) (by omega) (by omega) r _ hd3 (by omega) (by omega),e2]at hst
        by_cases c3:cont r
        · have c3':=c3
          unfold cont at c3'
          rw[if_pos c3,show((3:Nat):Int)+1=4 from rfl,Tkj s k 4 _ 65536 4 (by omega)]at hst
          rw[Tnf s k hs a _ hd _ _ _ hh hc _ _ hst]
          by_cases d:65536<=v4 a p q r/\v4 a p q r<=1114111
          · rw[if_pos (by unfold okv; omega),if_pos ⟨c,c2,c3,d.1,d.2⟩]; rfl
          · rw[if_neg (by unfold okv; omega),if_neg (fun h=>d ⟨h.2.2.2.1,h.2.2.2.2⟩)]; rfl
        · rw[if_neg c3]at hst
          rw[Tea s k hs a _ hd _ _ _ hh hc hst,if_neg (fun h=>c3 h.2.2.1)]; rfl
      · rw[if_neg c2]at hst
        rw[Tea s k hs a _ hd _ _ _ hh hc hst,if_neg (fun h=>c2 h.2.1)]; rfl
    · rw[if_neg c]at hst
      rw[Tea s k hs a _ hd _ _ _ hh hc hst,if_neg (fun h=>c h.1)]; rfl
 have:dec (a::t)= (0,0):=by rw[dec.eq_def]; simp only; rw[if_neg b1,if_neg b2,if_neg b3,if_neg b4,if_neg b5]
 rw[this,Tah _ A_ref1_Size _ rfl rfl rfl]
 simp(disch:=omega)[A_ref1_Size,Taa,Tad,Tab,hb]
theorem Tkk (s:ByteArray)(hs:s.size<1099511627776):∀(m i:Nat),s.size<=i+m->i<=s.size->Code (EX cp) L_ref1_Valid_0 ⟨[(0,.p (.sc (.string s))),(3,.p (pi i))],[]⟩ =
 if valid ((L s).drop i)=true then some (.ex 0,⟨[(0,.p (.sc (.string s))),(3,.p (pi s.size)),(8,.p (pb false))],[]⟩)else some (.ret,⟨[(2,.p (pb false))],[]⟩):=by
 intro m
 induction m with
 | zero =>
  intro i h1 h2
  have:i=s.size:=by omega
  subst this
  rw[Tbx s _ (Nat.le_refl _),Ta0,L_ref1_Valid_0,Taf]
  simp
 | succ m ih =>
  intro i h1 h2
  by_cases hlt:i<s.size
  · have hz:=refSize (cp:=cp) s i hs
    have hle:=Td2 s i h2
    rw[Tgs s i hlt]
    by_cases c:sizeAt s i=0
    · rw[if_pos c,L_ref1_Valid_0,Taf]
      simp(disch:=omega)[Taa,Tad,hlt,hz,c]
    · have ih':=ih (i+sizeAt s i) (by omega) (by omega)
      have hc:¬ ((sizeAt s i:Nat):Int)=0:=by omega
      rw[if_neg c,← ih',L_ref1_Valid_0,Taf]
      simp(disch:=omega)[Taa,Tad,hlt,hz,hc,Tab,c]
  · have:i=s.size:=by omega
    subst this
    rw[Tbx s _ (Nat.le_refl _),Ta0,L_ref1_Valid_0,Taf]
    simp
theorem refValid (s:ByteArray)(hs:s.size<1099511627776):Run (EX cp) 13 [.sc (.string s)]=some (.val (pb (valid (L s)))):=by
 have h:=Tkk (cp:=cp) s hs s.size 0 (by omega) (by omega)
 rw[Tah _ A_ref1_Valid _ rfl rfl rfl]
 simp only[List.drop_zero,Int.ofNat_zero,Int.natCast_zero]at h
 cases hv:valid (L s)with
 | true=>rw[hv,if_pos rfl]at h; simp[A_ref1_Valid,h]
 | false=>rw[hv,if_neg (by simp)]at h; simp[A_ref1_Valid,h]
theorem Th2 (l:List UInt8): (⟨l.toArray⟩:ByteArray).size=l.length:=by rw[← L_len,L_mk]
def strs (l:List ByteArray):List (List PV):=l.map fun x=> [.sc (.string x)]
@[simp] theorem Tgt (l:List ByteArray): (strs l).length=l.length:=by simp[strs]
@[simp] theorem Tpb:strs []= []:=rfl
@[simp] theorem Tt0 (l:List ByteArray)(x:ByteArray):strs l++ [[.sc (.string x)]]=strs (l++ [x]):=by simp[strs]
theorem Tt1 (l:List ByteArray)(n:Nat)(h:n<l.length): (strs l)[n]?=some [.sc (.string l[n])]:=by simp[strs,List.getElem?_eq_getElem h]
def chS (v:Int):ByteArray:= ⟨(enc v).toArray⟩
def ptsS (l:List UInt8):List ByteArray:= (points l).map chS
theorem Tt2 (l:List UInt8):points (clean l)=points l:=Td0 _ (Tcs l)
theorem Th3 (l:List (List PV))(fid:FuncId)(cs:List PV)(p:List PV->Bool)(hl:l.length<=9223372036854775807)(hp:∀ c∈l,c.length=2/\Run (EX cp) fid (.st c::cs)=some (.val (pb (p c)))):∀(m i:Nat),m+i=l.length ->
 Code (EX cp) L_slices_IndexFunc_api_Cut_api_Cut_0 ⟨[(0,.p (.sl 2 l)),(1,.p (.fn fid cs)),(7,.p (pi l.length)),(8,.p (pi i))],[]⟩ =
  some (match (l.drop i).findIdx? p with
   | some j=> (.ret,⟨[(4,.p (pi ((i+j:Nat):Int)))],[]⟩)
   | none=> (.ex 0,⟨[(0,.p (.sl 2 l)),(1,.p (.fn fid cs)),(7,.p (pi l.length)),(8,.p (pi l.length)),(9,.p (pb false))],[]⟩)):=by
 intro m
 induction m with
 | zero =>
  intro i hi
  have:i=l.length:=by omega
  subst this
  rw[L_slices_IndexFunc_api_Cut_api_Cut_0,Taf]
  simp
 | succ m ih =>
  intro i hi
  have hlt:i<l.length:=by omega
  obtain⟨h2,hr⟩:=hp l[i] (List.getElem_mem hlt)
  have hg:l[i]?=some l[i]:=List.getElem?_eq_getElem hlt
  rw[List.drop_eq_getElem_cons hlt,List.findIdx?_cons]
  generalize hge:l[i]=c at *
  have htk:c.take 2=c:=List.take_of_length_le (by omega)
  cases hpc:p c with
  | true =>
   rw[hpc]at hr
   rw[L_slices_IndexFunc_api_Cut_api_Cut_0,Taf]
   simp(disch:=omega)[Taa,hlt,hg,hge,hr,h2,htk,Taj]
  | false =>
   have ih':=ih (i+1) (by omega)
   rw[hpc]at hr
   have e: (some (match (if(false:Bool)=true then some 0 else Option.map (fun i=>i+1) ((l.drop (i+1)).findIdx? p))with
    | some j=> (Out.ret,(⟨[(4,.p (pi ((i+j:Nat):Int)))],[]⟩:St))
    | none=> (.ex 0,⟨[(0,.p (.sl 2 l)),(1,.p (.fn fid cs)),(7,.p (pi l.length)),(8,.p (pi l.length)),(9,.p (pb false))],[]⟩)))=Code (EX cp) L_slices_IndexFunc_api_Cut_api_Cut_0 ⟨[(0,.p (.sl 2 l)),(1,.p (.fn fid cs)),(7,.p (pi l.length)),(8,.p (pi ((i+1:Nat):Int)))],[]⟩:=by
    rw[ih']
    cases(l.drop (i+1)).findIdx? p with
    | none=>rfl
    | some j=>simp; omega
   rw[e]
   conv=>lhs; rw[L_slices_IndexFunc_api_Cut_api_Cut_0,Taf]
   simp(disch:=omega)[Taa,hlt,hg,hge,hr,h2,htk,Taj,Tab]
   rw[L_slices_IndexFunc_api_Cut_api_Cut_0]
theorem containsFuncC (l:List (List PV))(fid:FuncId)(cs:List PV)(p:List PV->Bool)(hl:l.length<=9223372036854775807)(hp:∀ c∈l,c.length=2/\Run (EX cp) fid (.st c::cs)=some (.val (pb (p c)))) :
 Run (EX cp) 161 [.sl 2 l,.fn fid cs]=some (.val (pb (l.any p))):=by
 have h:=Th3 l fid cs p hl hp l.length 0 (by omega)
 have hi:Run (EX cp) 205 [.sl 2 l,.fn fid cs]=some (.val (pi (match l.findIdx? p with | some j=> (j:Int) | none=> -1))):=by
  rw[Tah _ A_slices_IndexFunc_api_Cut_api_Cut _ rfl rfl rfl]
  simp only[List.drop_zero,Nat.zero_add,Int.ofNat_zero,Int.natCast_zero]at h
  cases hf:l.findIdx? p<;> rw[hf]at h<;> simp[A_slices_IndexFunc_api_Cut_api_Cut,h]
 rw[Tah _ A_slices_ContainsFunc_api_Cut_api_Cut _ rfl rfl rfl]
 simp[A_slices_ContainsFunc_api_Cut_api_Cut,hi]
 cases hf:l.findIdx? p with
 | none =>
  rw[List.findIdx?_eq_none_iff]at hf
  simp
  intro c hc
  simpa using hf c hc
 | some j =>
  obtain⟨h1,h2,_⟩:=List.findIdx?_eq_some_iff_getElem.1 hf
  simp
  exact⟨_,List.getElem_mem h1,h2⟩
theorem Tqz (l:List Int)(v:Int)(hl:l.length<=9223372036854775807):∀(m i:Nat),m+i=l.length ->
 Code (EX cp) L_slices_Index_int_int_0 ⟨[(0,.p (.sl 1 (ints l))),(1,.p (pi v)),(7,.p (pi l.length)),(8,.p (pi i))],[]⟩ =
  if(l.drop i).any (fun y=>y == v)then some (.ret,⟨[(4,.p (pi ((i+ (l.drop i).findIdx (fun y=>y == v):Nat):Int)))],[]⟩)
  else some (.ex 0,⟨[(0,.p (.sl 1 (ints l))),(1,.p (pi v)),(7,.p (pi l.length)),(8,.p (pi l.length)),(9,.p (pb false))],[]⟩):=by
 intro m
 induction m with
 | zero =>
  intro i hi
  have:i=l.length:=by omega
  subst this
  rw[L_slices_Index_int_int_0,Taf]
  simp
 | succ m ih =>
  intro i hi
  have hlt:i<l.length:=by omega
  have hg:=Tf3 l i hlt
  rw[List.drop_eq_getElem_cons hlt,List.any_cons,List.findIdx_cons]
  generalize l[i]=x at *
  by_cases hv:v=x
  · subst hv
    rw[L_slices_Index_int_int_0,Taf]
    simp(disch:=omega)[Taa,hlt,hg]
  · have hv': (x == v)=false:=by simpa using fun e=>hv e.symm
    have ih':=ih (i+1) (by omega)
    rw[hv',Bool.false_or,cond_false]
    have e: ((i+ ((l.drop (i+1)).findIdx (fun y=>y == v)+1):Nat):Int)= ((i+1+ (l.drop (i+1)).findIdx (fun y=>y == v):Nat):Int):=by omega
    rw[e,← ih',L_slices_Index_int_int_0,Taf]
    simp(disch:=omega)[Taa,hlt,hg,hv,Tab]
theorem contains (l:List Int)(v:Int)(hl:l.length<=9223372036854775807):Run (EX cp) 159 [.sl 1 (ints l),pi v]=some (.val (pb (l.any fun y=>y == v))):=by
 have h:=Tqz (cp:=cp) l v hl l.length 0 (by omega)
 simp only[List.drop_zero,Nat.zero_add,Int.ofNat_zero,Int.natCast_zero]at h
 have hi:Run (EX cp) 204 [.sl 1 (ints l),pi v]=some (.val (pi (if l.any (fun y=>y == v)then(l.findIdx (fun y=>y == v):Int)else -1))):=by
  rw[Tah _ A_slices_Index_int_int _ rfl rfl rfl]
  cases hf:l.any (fun y=>y == v)<;> rw[hf]at h<;> simp at h<;> simp[A_slices_Index_int_int,h]
 rw[Tah _ A_slices_Contains_int_int _ rfl rfl rfl]
 cases hf:l.any (fun y=>y == v)<;> rw[hf]at hi
 · simp only[Bool.false_eq_true,if_false]at hi
   simp[A_slices_Contains_int_int,hi]
 · simp only[if_true]at hi
   simp(disch:=omega)[A_slices_Contains_int_int,hi,Taa]
def holdsF (g:Int)(u:List Int):Bool:=g == -1|| !(u.any fun y=>y == g)
theorem holds (g:Int)(u:List Int)(hl:u.length<=9223372036854775807):Run (EX cp) 198 [pi g,.sl 1 (ints u)]=some (.val (pb (holdsF g u))):=by
 have h:=contains (cp:=cp) u g hl
 rw[Tah _ A_atom_holds _ rfl rfl rfl]
 by_cases hg:g= -1
 · simp[A_atom_holds,hg,holdsF]
 · simp[A_atom_holds,hg,holdsF,h]
structure At where
 txt:ByteArray
 rv:Int
 gr:Int
 rk:Int
 cuts:List (Int×Int)
def cutV (q:Int×Int):List PV:= [pi q.1,pi q.2]
def cutsL (c:List (Int×Int)):List (List PV):=c.map cutV
@[simp] theorem Taq (c:List (Int×Int)): (cutsL c).length=c.length:=by simp[cutsL]
@[simp] theorem T3q:cutsL []= []:=rfl
theorem Tds (c:List (Int×Int))(n:Nat)(h:n<c.length): (cutsL c)[n]?=some [pi c[n].1,pi c[n].2]:=by simp[cutsL,cutV,List.getElem?_eq_getElem h]
def At.pv (a:At):List PV:= [.sc (.string a.txt),pi a.rv,pi a.gr,pi a.rk,.sl 2 (cutsL a.cuts)]
def ats (l:List At):List (List PV):=l.map At.pv
@[simp] theorem Tkl (l:List At): (ats l).length=l.length:=by simp[ats]
@[simp] theorem T1m:ats []= []:=rfl
theorem Tje (l:List At)(n:Nat)(h:n<l.length): (ats l)[n]?=some l[n].pv:=by simp[ats,List.getElem?_eq_getElem h]
@[simp] theorem Tkm (l:List At): (ats l).take l.length=ats l:=by rw[List.take_of_length_le (by simp)]
theorem Teb (a b:List At):ats a++ats b=ats (a++b):=by simp[ats]
@[simp] theorem T4q (l:List At)(x:At):ats l++ [x.pv]=ats (l++ [x]):=by simp[ats]
def cutP (rev:Int)(u:List Int):List PV->Bool
 | [.sc (.int _ a),.sc (.int _ b)]=>decide (a<=rev)&&holdsF b u
 | _=>false
def At.vis (a:At)(rev:Int)(u:List Int):Bool:=decide (a.rv<=rev)&&holdsF a.gr u&& !(a.cuts.any fun q=>decide (q.1<=rev)&&holdsF q.2 u)
theorem visible1 (cr cg rev:Int)(u:List Int)(hl:u.length<=9223372036854775807):Run (EX cp) 199 [.st [pi cr,pi cg],.pt [pi rev],.pt [.sl 1 (ints u)]]=some (.val (pb (decide (cr<=rev)&&holdsF cg u))):=by
 have h:=holds (cp:=cp) cg u hl
 rw[Tah _ A_atom_Visible_1 _ rfl rfl rfl]
 by_cases hg:cr<=rev
 · simp[A_atom_Visible_1,hg,h]
 · simp[A_atom_Visible_1,hg,h]
theorem visible (a:At)(rev:Int)(u:List Int)(hl:u.length<=9223372036854775807)(hc:a.cuts.length<=9223372036854775807) :
 Run (EX cp) 152 [.st a.pv,pi rev,.sl 1 (ints u)]=some (.val (pb (a.vis rev u))):=by
 have h1:=holds (cp:=cp) a.gr u hl
 have h2:=containsFuncC (cp:=cp) (cutsL a.cuts) 199 [.pt [pi rev],.pt [.sl 1 (ints u)]] (cutP rev u) (by simpa using hc) (fun r hr=>by
  obtain⟨q,hq,rfl⟩:=List.mem_map.1 hr
  exact⟨rfl,visible1 q.1 q.2 rev u hl⟩)
 have h3: (cutsL a.cuts).any (cutP rev u)=a.cuts.any fun q=>decide (q.1<=rev)&&holdsF q.2 u:=by
  simp[cutsL,cutV,List.any_map,Function.comp_def,cutP]
 rw[h3]at h2
 rw[Tah _ A_atom_Visible _ rfl rfl rfl,At.pv,At.vis]
 by_cases hg:a.rv<=rev
 · cases hh:holdsF a.gr u<;> rw[hh]at h1<;> simp(disch:=omega)[A_atom_Visible,hg,h1,h2,Taa,Tad]
 · simp(disch:=omega)[A_atom_Visible,hg,Taa,Tad]
def sumT (l:List At):Nat:= (l.map fun a=>a.txt.size).sum
theorem Td3 (a:At)(l:List At):sumT (a::l)=a.txt.size+sumT l:=by simp[sumT]
theorem Tng (a b:List At):sumT (a++b)=sumT a+sumT b:=by simp[sumT]
theorem Tt3 (l:List At)(i:Nat):sumT (l.drop i)<=sumT l:=by
 conv=>rhs; rw[← List.take_append_drop i l]
 rw[Tng]; omega
structure Fit (l:List At):Prop where
 len:l.length<1099511627776
 sum:sumT l<35184372088832
 cuts:∀ a∈l,a.cuts.length<1099511627776
theorem Fit.get {l:List At}(h:Fit l)(i:Nat)(hi:i<l.length):l[i].cuts.length<=9223372036854775807/\l[i].txt.size<35184372088832:=by
 have h1:=h.cuts _ (List.getElem_mem hi)
 refine⟨by omega,?_⟩
 have h2:=h.sum
 have h3:sumT (l.drop i)<=sumT l:=Tt3 l i
 rw[List.drop_eq_getElem_cons hi,Td3]at h3
 omega
def plcs (rev:Int)(u:List Int):List At->Nat->List Int
 | [],_=> []
 | a::l,n=> (n:Int)::plcs rev u l (if a.vis rev u then n+a.txt.size else n)
def plcE (rev:Int)(u:List Int):List At->Nat->Nat
 | [],n=>n
 | a::l,n=>plcE rev u l (if a.vis rev u then n+a.txt.size else n)
def places (rev:Int)(u:List Int)(l:List At):List Int:=plcs rev u l 0++ [(plcE rev u l 0:Int)]
theorem Tec (rev:Int)(u:List Int):∀(l:List At) (n:Nat),(plcs rev u l n).length=l.length
 | [],_=>rfl
 | a::l,n=>by simp[plcs,Tec rev u l]
theorem Tjf (rev:Int)(u:List Int)(l:List At): (places rev u l).length=l.length+1:=by simp[places,Tec]
theorem Tnh (l:List At)(rev:Int)(u:List Int)(hf:Fit l)(hu:u.length<=9223372036854775807):∀(m i n:Nat) (acc:List Int),m+i=l.length->acc.length=i->n+sumT (l.drop i)<35184372088832 ->
 Code (EX cp) L_atom_Places_0 ⟨[(1,.p (pi rev)),(2,.p (.sl 1 (ints u))),(7,.ms 7 0 acc.length),(8,.p (pi n)),(15,.p (.sl 5 (ats l))),(16,.p (pi l.length)),(17,.p (pi i))],[(7,.row 3 1 false (ints acc))]⟩ =
  some (.ex 0,⟨[(1,.p (pi rev)),(2,.p (.sl 1 (ints u))),(7,.ms 7 0 (acc++plcs rev u (l.drop i) n).length),(8,.p (pi (plcE rev u (l.drop i) n))),(15,.p (.sl 5 (ats l))),(16,.p (pi l.length)),(17,.p (pi l.length)),(18,.p (pb false))],[(7,.row 3 1 false (ints (acc++plcs rev u (l.drop i) n)))]⟩):=by
 intro m
 induction m with
 | zero =>
  intro i n acc hi ha hb
  have:i=l.length:=by omega
  subst this
  rw[L_atom_Places_0,Taf]
  simp[plcs,plcE]
 | succ m ih =>
  intro i n acc hi ha hb
  have hlt:i<l.length:=by omega
  have hl:=hf.len
  have hg:=Tje l i hlt
  obtain⟨hc,hz⟩:=hf.get i hlt
  have hv:=visible (cp:=cp) l[i] rev u hu hc
  rw[List.drop_eq_getElem_cons hlt]at hb ⊢
  rw[Td3]at hb
  have hcap: (acc.length+1)*8<=maxBytes/\acc.length+1<=9223372036854775807:=by unfold maxBytes; omega
  generalize l[i]=a at *
  cases hvis:a.vis rev u with
  | false =>
   rw[hvis]at hv
   have ih':=ih (i+1) n (acc++ [(n:Int)]) (by omega) (by simp; omega) (by omega)
   have e:acc++plcs rev u (a::l.drop (i+1)) n= (acc++ [(n:Int)])++plcs rev u (l.drop (i+1)) n:=by simp[plcs,hvis]
   have e2:plcE rev u (a::l.drop (i+1)) n=plcE rev u (l.drop (i+1)) n:=by simp[plcE,hvis]
   rw[e,e2,← ih',L_atom_Places_0,Taf]
   simp only[At.pv]at hv hg
   simp(disch:=omega)[hlt,hg,hv,Tab,hcap,Taa]
  | true =>
   rw[hvis]at hv
   have ih':=ih (i+1) (n+a.txt.size) (acc++ [(n:Int)]) (by omega) (by simp; omega) (by omega)
   have e:acc++plcs rev u (a::l.drop (i+1)) n= (acc++ [(n:Int)])++plcs rev u (l.drop (i+1)) (n+a.txt.size):=by simp[plcs,hvis]
   have e2:plcE rev u (a::l.drop (i+1)) n=plcE rev u (l.drop (i+1)) (n+a.txt.size):=by simp[plcE,hvis]
   rw[e,e2,← ih',L_atom_Places_0,Taf]
   simp only[At.pv]at hv hg
   simp(disch:=omega)[hlt,hg,hv,Tab,hcap,Taa]
theorem atomPlaces (l:List At)(rev:Int)(u:List Int)(hf:Fit l)(hu:u.length<=9223372036854775807):Run (EX cp) 155 [.sl 5 (ats l),pi rev,.sl 1 (ints u)]=some (.own 3 1 (ints (places rev u l))):=by
 have h:=Tnh (cp:=cp) l rev u hf hu l.length 0 0 [] (by omega) rfl (by simpa using hf.sum)
 have hl:=hf.len
 have hcap: (l.length+1)*8<=maxBytes/\l.length+1<=9223372036854775807:=by unfold maxBytes; omega
 have hpl:=Tec rev u l 0
 have hE: ((plcs rev u l 0).length+1)*8<=maxBytes/\ (plcs rev u l 0).length+1<=9223372036854775807:=by unfold maxBytes; omega
 rw[Tah _ A_atom_Places _ rfl rfl rfl]
 simp at h
 simp(disch:=omega)[A_atom_Places,h,Tab,hcap,hE,Taj,places]
def txtF (rev:Int)(u:List Int):List At->List UInt8
 | []=> []
 | a::l=> (if a.vis rev u then L a.txt else[])++txtF rev u l
def txtS (rev:Int)(u:List Int)(l:List At):ByteArray:= ⟨(txtF rev u l).toArray⟩
theorem Tbj (rev:Int)(u:List Int):∀(a b:List At),txtF rev u (a++b)=txtF rev u a++txtF rev u b
 | [],b=>rfl
 | x::a,b=>by simp[txtF,Tbj rev u a b]
theorem Tpc (rev:Int)(u:List Int):∀(l:List At),(txtF rev u l).length<=sumT l
 | []=>by simp[txtF]
 | a::l=>by
  have:=Tpc rev u l
  rw[Td3,txtF,List.length_append]
  split<;> simp[L_len]<;> omega
theorem Tpd (rev:Int)(u:List Int):∀(l:List At) (n:Nat),plcE rev u l n=n+ (txtF rev u l).length
 | [],n=>by simp[plcE,txtF]
 | a::l,n=>by
  rw[plcE,Tpd rev u l,txtF,List.length_append]
  split<;> simp[L_len]<;> omega
theorem Tt4 (rev:Int)(u:List Int):∀(l:List At) (n i:Nat),i<l.length-> (plcs rev u l n)[i]?=some ((n+ (txtF rev u (l.take i)).length:Nat):Int)
 | [],n,i,h=>by simp at h
 | a::l,n,0,h=>by simp[plcs,txtF]
 | a::l,n,i+1,h=>by
  have:=Tt4 rev u l (if a.vis rev u then n+a.txt.size else n) i (by simpa using h)
  rw[plcs,List.getElem?_cons_succ,this,List.take_succ_cons,txtF,List.length_append]
  split<;> simp[L_len]<;> omega
theorem Tt5 (rev:Int)(u:List Int)(l:List At)(i:Nat)(h:i<=l.length): (places rev u l)[i]?=some (((txtF rev u (l.take i)).length:Nat):Int):=by
 unfold places
 rcases Nat.lt_or_ge i l.length with h' | h'
 · rw[List.getElem?_append_left (by rw[Tec]; exact h'),Tt4 rev u l 0 i h',Nat.zero_add]
 · have:i=l.length:=by omega
   subst this
   rw[List.getElem?_append_right (by rw[Tec]; exact Nat.le_refl _),Tec,Nat.sub_self,Tpd,List.take_length,Nat.zero_add]
   rfl
theorem Tt6 (l:List At)(rev:Int)(u:List Int)(hf:Fit l)(hu:u.length<=9223372036854775807):∀(m i:Nat) (acc:List UInt8),m+i=l.length->acc.length+sumT (l.drop i)<35184372088832 ->
 Code (EX cp) L_atom_Text_0 ⟨[(1,.p (pi rev)),(2,.p (.sl 1 (ints u))),(7,.mp 7 0 0),(10,.p (.sl 5 (ats l))),(11,.p (pi l.length)),(12,.p (pi i))],[(7,.dp 145 2 (sbRow 5 (bRows acc)))]⟩ =
  some (.ex 0,⟨[(1,.p (pi rev)),(2,.p (.sl 1 (ints u))),(7,.mp 7 0 0),(10,.p (.sl 5 (ats l))),(11,.p (pi l.length)),(12,.p (pi l.length)),(13,.p (pb false))],[(7,.dp 145 2 (sbRow 5 (bRows (acc++txtF rev u (l.drop i)))))]⟩):=by
 intro m
 induction m with
 | zero =>
  intro i acc hi hb
  have:i=l.length:=by omega
  subst this
  rw[L_atom_Text_0,Taf]
  simp[txtF]
 | succ m ih =>
  intro i acc hi hb
  have hlt:i<l.length:=by omega
  have hl:=hf.len
  have hg:=Tje l i hlt
  obtain⟨hc,hz⟩:=hf.get i hlt
  have hv:=visible (cp:=cp) l[i] rev u hu hc
  rw[List.drop_eq_getElem_cons hlt]at hb ⊢
  rw[Td3]at hb
  generalize l[i]=a at *
  have hln:a.txt.data.toList.length=a.txt.size:=by simp
  have hcap:acc.length+a.txt.size+4<=maxBytes:=by unfold maxBytes; omega
  cases hvis:a.vis rev u with
  | false =>
   rw[hvis]at hv
   have ih':=ih (i+1) acc (by omega) (by omega)
   have e:acc++txtF rev u (a::l.drop (i+1))=acc++txtF rev u (l.drop (i+1)):=by simp[txtF,hvis]
   rw[e,← ih',L_atom_Text_0,Taf]
   simp only[At.pv]at hv hg
   simp(disch:=omega)[hlt,hg,hv,Tab,Taa]
  | true =>
   rw[hvis]at hv
   have ih':=ih (i+1) (acc++L a.txt) (by omega) (by rw[List.length_append,L_len]; omega)
   have e:acc++txtF rev u (a::l.drop (i+1))= (acc++L a.txt)++txtF rev u (l.drop (i+1)):=by simp[txtF,hvis]
   rw[e,← ih',L_atom_Text_0,Taf]
   simp only[At.pv]at hv hg
   simp(disch:=omega)[hlt,hg,hv,Tab,Taa,hcap,hln,Taj,L]
theorem atomText (l:List At)(rev:Int)(u:List Int)(hf:Fit l)(hu:u.length<=9223372036854775807):Run (EX cp) 88 [.sl 5 (ats l),pi rev,.sl 1 (ints u)]=some (.val (.sc (.string (txtS rev u l)))):=by
 have h:=Tt6 (cp:=cp) l rev u hf hu l.length 0 [] (by omega) (by simpa using hf.sum)
 rw[Tah _ A_atom_Text _ rfl rfl rfl]
 simp at h
 simp[A_atom_Text,h,txtS]
theorem Th4:∀ l:List UInt8,eff.bytesL (bRows l)=some l
 | []=>rfl
 | b::l=>by
  show(eff.bytesL (bRows l)).map (UInt8.ofNat (b.toNat:Int).toNat:: ·)=some (b::l)
  rw[Th4 l]; simp
@[simp] theorem Tzi (l:List UInt8):eff.bytesOf (bRows l)=some ⟨l.toArray⟩:=by
 unfold eff.bytesOf; rw[Th4]; rfl
@[simp] theorem T23 (l:List UInt8): (bRows l).take l.length=bRows l:=by rw[List.take_of_length_le (by simp)]
end Go.Proofs.YtjpibniecllafaaGreat.AM
end
section
namespace Go.Proofs.YtjpibniecllafaaGreat.AM
open Go Go.Proofs.YtjpibniecllafaaGreat.U
attribute [local simp] cellR thereV RV.sv innE inlE reach pos subH SV.mapr RV.mapr Ob.mapr SV.refs RV.id? RV.ref Ob.refs noRow shnE shrE okK closeB freshs at0 newS leftS finishS oneS manyS allP sameFz Ob.noPin startS entryS List.range_succ List.filterMap_cons List.filterMap_nil
variable {cp:List PV->Option Ret}
def runN (h:List (Nat×Ob))(fn:AFunc):Option (Out×St)->Option Ret
 | some (.ex _,_)=>none
 | some (_,s)=> (match finishS fn s with | some v=>newS h v s | none=>none)
 | none=>none
def runS (h:List (Nat×Ob))(fn:AFunc):Option (Out×St)->Option Ret
 | some (.ex _,_)=>none
 | some (_,s)=> (match finishS fn s with | some v=>leftS h.length v s | none=>none)
 | none=>none
@[simp] theorem T4r (h:List (Nat×Ob))(fn:AFunc)(s:St):runN h fn (some (.ret,s))= (match finishS fn s with | some v=>newS h v s | none=>none):=rfl
@[simp] theorem T4s (h:List (Nat×Ob))(fn:AFunc)(s:St):runN h fn (some (.nor,s))= (match finishS fn s with | some v=>newS h v s | none=>none):=rfl
@[simp] theorem T4t (h:List (Nat×Ob))(fn:AFunc)(s:St):runS h fn (some (.ret,s))= (match finishS fn s with | some v=>leftS h.length v s | none=>none):=rfl
@[simp] theorem T4u (h:List (Nat×Ob))(fn:AFunc)(s:St):runS h fn (some (.nor,s))= (match finishS fn s with | some v=>leftS h.length v s | none=>none):=rfl
theorem Tbt (F f:FuncId)(fn:AFunc)(vs:List SV)(h:List (Nat×Ob))(hF:F=f+2000000)(he: (EX cp).isExt F=false)(hn: (EX cp).ap F=none)(hf: (EX cp).ap f=some fn)(ha:vs.length=fn.np)(hp:okK h 0=true)(hl:h.length<=1000)(hr:fn.body.ro=true) :
 Run (EX cp) F [.hp vs h]=runN h fn (Code (EX cp) fn.body (startS vs h)):=by
 subst hF
 rw[Tz0 (EX cp) f fn vs h he hn hf ha hp hl hr]
 unfold runN; rfl
theorem Tau (F f:FuncId)(fn:AFunc)(vs:List SV)(h:List (Nat×Ob))(hF:F=f+1000000)(h1:f<1000000)(he: (EX cp).isExt F=false)(hn: (EX cp).ap F=none)(hf: (EX cp).ap f=some fn)(ha:vs.length=fn.np)(hp:okK h 0=true)(hl:h.length<=1000) :
 Run (EX cp) F [.hp vs h]=runS h fn (Code (EX cp) fn.body (startS vs h)):=by
 subst hF
 rw[Tzz (EX cp) f fn vs h h1 he hn hf ha hp hl]
 unfold runS; rfl
def engH (l:List (List PV))(U:List (List Int))(fl:Int)(G F:List Int):List (Nat×Ob):= [(0,.gr 100 2 [[.p (.sl 5 l),.mo 1]]),(1,.mpo U fl G F)]
theorem engHead (l:List (List PV))(U:List (List Int))(fl:Int)(G F:List Int):Run (EX cp) 2000026 [.hp [.mp 0 0 0] (engH l U fl G F)]=some (.shn (.p (pi (fl+U.length-1))) []):=by
 rw[Tbt _ 26 A_engine_Engine_Head _ _ (by decide) rfl rfl rfl rfl rfl (by simp[engH]) (by decide +kernel)]
 simp(disch:=omega)[A_engine_Engine_Head,engH,Tnb]
theorem engLive (l:List (List PV))(U:List (List Int))(fl:Int)(G F:List Int)(r:Int):Run (EX cp) 2000087 [.hp [.mp 0 0 0,.p (pi r)] (engH l U fl G F)]=some (.shn (.p (pb (decide (fl<=r)&&decide (r<=fl+U.length-1)))) []):=by
 rw[Tbt _ 87 A_engine_Engine_Live _ _ (by decide) rfl rfl rfl rfl rfl (by simp[engH]) (by decide +kernel)]
 simp(disch:=omega)[A_engine_Engine_Live,engH,Tnc]
def undU (U:List (List Int))(fl r:Int):List Int:=if fl<=r/\r<=fl+U.length-1 then U.getD (r-fl).toNat []else[]
theorem Tt7 (U:List (List Int))(fl r:Int): (if fl<=r/\r<=fl+U.length-1 then ints (U.getD (r-fl).toNat [])else[])=ints (undU U fl r):=by
 unfold undU
 split<;> rfl
theorem Tq0 (U:List (List Int))(fl:Int)(G F:List Int)(r:Int):Run (EX cp) 2000102 [.hp [.mo 0,.p (pi r)] [(0,.mpo U fl G F)]]=some (.shn (.p (.sl 1 (ints (undU U fl r)))) []):=by
 rw[Tkc,Tt7]
theorem engUndoneAt (l:List (List PV))(U:List (List Int))(fl:Int)(G F:List Int)(r:Int):Run (EX cp) 2000056 [.hp [.mp 0 0 0,.p (pi r)] (engH l U fl G F)]=some (.shn (.p (.sl 1 (ints (undU U fl r)))) []):=by
 rw[Tbt _ 56 A_engine_Engine_UndoneAt _ _ (by decide) rfl rfl rfl rfl rfl (by simp[engH]) (by decide +kernel)]
 simp(disch:=omega)[A_engine_Engine_UndoneAt,engH,Tq0]
end Go.Proofs.YtjpibniecllafaaGreat.AM
end
section
namespace Go.Proofs.YtjpibniecllafaaGreat.AM
open Go Go.Proofs.YtjpibniecllafaaGreat.U
variable {cp:List PV->Option Ret}
theorem Tgu (s:ByteArray)(i k:Nat)(b:UInt8)(h: ((L s).drop i)[k]?=some b): (s.get! (i+k)).toNat=b.toNat:=by
 rw[List.getElem?_drop]at h
 have hlt:i+k< (L s).length:= (List.getElem?_eq_some_iff.1 h).1
 rw[List.getElem?_eq_getElem hlt]at h
 obtain rfl:=oIj h
 have hd:i+k<s.data.size:=by simpa[L]using hlt
 have:s.get! (i+k)=s.data[i+k]! :=rfl
 rw[this,getElem!_pos s.data (i+k) hd]
 simp[L]
theorem Th5 (b:UInt8): (b.toNat:Int)=bi b:=rfl
set_option maxRecDepth 100000 in
theorem Tjg (s:ByteArray)(i:Nat)(h: (dec ((L s).drop i)).1≠0):Utf8.decode s i= ((dec ((L s).drop i)).2.toNat,(dec ((L s).drop i)).1):=by
 have hlen:s.size-i= ((L s).drop i).length:=by rw[List.length_drop,L_len]
 have hdc:=Lib.decode_at s i
 rw[hlen]at hdc
 refine hdc.trans ?_
 clear hdc
 have g0:=Tgu s i 0
 have g1:=Tgu s i 1
 have g2:=Tgu s i 2
 have g3:=Tgu s i 3
 generalize(L s).drop i=l at *
 simp only[Nat.add_zero]at g0
 match l,h with
 | [],h=>exact absurd rfl h
 | a ::t,h =>
  have ga:=g0 a rfl
  have hr:=Tal a
  have ea:=Th5 a
  rw[ga]
  rw[dec.eq_def]at h ⊢
  simp only at h ⊢
  by_cases b1:bi a<128
  · rw[if_pos b1]
    unfold Lib.decodeN
    rw[if_pos (by omega)]
    simp only[Prod.mk.injEq,and_true]; omega
  rw[if_neg b1]at h ⊢
  by_cases b2:bi a<192
  · rw[if_pos b2]at h; exact absurd rfl h
  rw[if_neg b2]at h ⊢
  by_cases b3:bi a<224
  · rw [if_pos b3]at h ⊢
    match t,h,g1 with
    | [],h,_=>exact absurd rfl h
    | p::t,h,g1 =>
     have gp:=g1 p rfl
     have ep:=Th5 p
     dsimp only at h ⊢
     by_cases c:cont p/\128<=v2 a p
     · rw[if_pos c]
       obtain⟨c1,c2⟩:=c
       unfold cont at c1
       unfold v2 at c2 ⊢
       rw[gp]
       unfold Lib.decodeN
       rw[if_neg (by omega),if_pos ⟨by omega,by simp,by omega⟩,if_pos (by omega)]
       simp only[Prod.mk.injEq,and_true]; omega
     · rw[if_neg c]at h; exact absurd rfl h
  rw[if_neg b3]at h ⊢
  by_cases b4:bi a<240
  · rw [if_pos b4]at h ⊢
    match t,h,g1,g2 with
    | [],h,_,_=>exact absurd rfl h
    | [p],h,_,_=>exact absurd rfl h
    | p::q::t,h,g1,g2 =>
     have gp:=g1 p rfl
     have gq:=g2 q rfl
     have ep:=Th5 p
     have eq:=Th5 q
     dsimp only at h ⊢
     by_cases c:cont p/\cont q/\2048<=v3 a p q/\¬ (55296<=v3 a p q/\v3 a p q<=57343)
     · rw[if_pos c]
       obtain⟨c1,c2,c3,c4⟩:=c
       unfold cont at c1 c2
       unfold v3 at c3 c4 ⊢
       rw[gp,gq]
       unfold Lib.decodeN
       rw[if_neg (by omega),if_neg (by omega),if_pos ⟨by omega,⟨by simp,by omega⟩,by simp,by omega⟩,if_pos (by omega)]
       simp only[Prod.mk.injEq,and_true]; omega
     · rw[if_neg c]at h; exact absurd rfl h
  rw[if_neg b4]at h ⊢
  by_cases b5:bi a<248
  · rw [if_pos b5]at h ⊢
    match t,h,g1,g2,g3 with
    | [],h,_,_,_=>exact absurd rfl h
    | [p],h,_,_,_=>exact absurd rfl h
    | [p,q],h,_,_,_=>exact absurd rfl h
    | p::q::r::t,h,g1,g2,g3 =>
     have gp:=g1 p rfl
     have gq:=g2 q rfl
     have gr:=g3 r rfl
     have ep:=Th5 p
     have eq:=Th5 q
     have er:=Th5 r
     dsimp only at h ⊢
     by_cases c:cont p/\cont q/\cont r/\65536<=v4 a p q r/\v4 a p q r<=1114111
     · rw[if_pos c]
       obtain⟨c1,c2,c3,c4,c5⟩:=c
       unfold cont at c1 c2 c3
       unfold v4 at c4 c5 ⊢
       rw[gp,gq,gr]
       unfold Lib.decodeN
       rw[if_neg (by omega),if_neg (by omega),if_neg (by omega),if_pos ⟨by omega,⟨by simp,by omega⟩,⟨by simp,by omega⟩,by simp,by omega⟩,if_pos (by omega)]
       simp only[Prod.mk.injEq,and_true]; omega
     · rw[if_neg c]at h; exact absurd rfl h
  · rw[if_neg b5]at h; exact absurd rfl h
theorem Tjh (v:Int)(h:sc v):Utf8.encode v=chS v:=by
 have hs:=h
 unfold sc at hs
 have hv:Utf8.valid v=true:=by
  unfold Utf8.valid
  simp only[Bool.or_eq_true,Bool.and_eq_true,decide_eq_true_eq]
  omega
 apply L_inj
 unfold chS Utf8.encode
 rw[L_mk,if_pos hv]
 have key:∀ x:Int,∀ n:Nat,(n:Int)=x-> (UInt8.ofNat n)=x.toNat.toUInt8:=by
  intro x n hx
  subst hx
  rfl
 by_cases c1:v<128
 · rw[Tkd (by omega) c1,if_pos (by omega)]
   exact congrArg (fun x=> [x]) (key _ _ (by omega))
 by_cases c2:v<2048
 · rw[Tke (by omega) c2,if_neg (by omega),if_pos (by omega)]
   rw[← key (192+v / 64) (192+v.toNat / 64) (by omega),← key (128+v % 64) (128+v.toNat % 64) (by omega)]
   rfl
 by_cases c3:v<65536
 · rw[Tfd (by omega) c3 h,if_neg (by omega),if_neg (by omega),if_pos (by omega)]
   rw[← key (224+v / 4096) (224+v.toNat / 4096) (by omega),← key (128+v / 64 % 64) (128+v.toNat / 64 % 64) (by omega),← key (128+v % 64) (128+v.toNat % 64) (by omega)]
   rfl
 · rw[Tgp (by omega) (by omega),if_neg (by omega),if_neg (by omega),if_neg (by omega)]
   rw[← key (240+v / 262144) (240+v.toNat / 262144) (by omega),← key (128+v / 4096 % 64) (128+v.toNat / 4096 % 64) (by omega),← key (128+v / 64 % 64) (128+v.toNat / 64 % 64) (by omega),← key (128+v % 64) (128+v.toNat % 64) (by omega)]
   rfl
end Go.Proofs.YtjpibniecllafaaGreat.AM
end
