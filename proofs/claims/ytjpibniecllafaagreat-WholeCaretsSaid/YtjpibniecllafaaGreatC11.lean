/- Made by pack.py: AR9, RE2, RE3, RE4, AR10, AR11, AR12, AR13, AFok0, AFok1, AFok2, AFok3, AFok, AMS2, AMS, AMS3, AX, AXN, AXA, VR1, Shelf, VR2, VR3. No condition but what each says. -/
import Derived.Test.YtjpibniecllafaaGreatC10
import Derived.Test.YtjpibniecllafaaGreatC7
import Derived.Test.YtjpibniecllafaaGreatC9
import Derived.Test.YtjpibniecllafaaGreatProg
import Derived.Test.YtjpibniecllafaaGreatC5
import Derived.WalkKit
import Derived.Shelf.RegionOpenPlain
import Derived.ProofKit
import Derived.Lib.Builder
import Derived.Lib.AppendStr
import Derived.Lib.UnsafeStr
import Derived.Lib.FrozenHead
import Derived.Lib.RuneBytes
import Derived.Lib.SliceRun
import Derived.Test.YtjpibniecllafaaGreatC0
import Derived.Deep.RegionHeld3
import Derived.Deep.DrawnRows
import Derived.Shelf.Strings.Builder1
import Derived.Shelf.Small.Bits
import Derived.Shelf.Strconv.Itoa0
import Derived.Shelf.Sort.Plain
import Derived.Shelf.Slices.Reverse
import Derived.Ground.Names2Prog
import Derived.Shelf.Slices.SearchI
import Derived.Shelf.Slices.Cells
import Derived.Shelf.Slices.In.SortNone
import Derived.Shelf.Slices.Empties
import Derived.Shelf.SlGeneric
import Derived.Shelf.SlIterI.Nil
import Derived.Shelf.SortM.Plain
import Derived.Shelf.SortM.SortNone
import Derived.Shelf.SlMaps.Clone
import Derived.Ground.GgzProg
import Derived.Ground.SlgmProg
import Derived.Ground.SlmcProg
import Derived.Test.YtjpibniecllafaaGreatC2
import Derived.Deep.AppendLies
import Derived.Deep.DeepMust
set_option linter.unusedSimpArgs false
set_option linter.unusedVariables false
set_option maxHeartbeats 16000000
section
namespace Go.Proofs.YtjpibniecllafaaGreat.AM
open Go Go.Proofs.YtjpibniecllafaaGreat.U
variable {cp:List PV->Option Ret}
attribute [simp] ret1d
def At.dv (a:At):List PV:= [.sc (.string a.txt),pi a.rv,pi a.gr,pi a.rk,.ow 64 2 (cutsL a.cuts)]
def dats (l:List At):List (List PV):=l.map At.dv
@[simp] theorem Txt (l:List At): (dats l).length=l.length:=by simp[dats]
@[simp] theorem T24 (l:List At):okSet (dats l)=true:=by
 simp[okSet,dats,At.dv,PV.noHole]
@[simp] theorem T3r (l:List At):setL (dats l)=ats l:=by
 simp[setL,dats,ats,At.dv,At.pv,PV.set,Function.comp_def]
def mix (l:List At)(i:Nat):List (List PV):=dats (l.take i)++ats (l.drop i)
theorem Txu (l:List At):mix l 0=ats l:=by simp[mix,dats]
theorem Txv (l:List At):mix l l.length=dats l:=by simp[mix]
@[simp] theorem T40 (l:List At)(i:Nat): (mix l i).length=l.length:=by
 simp[mix]; omega
theorem Tt8 (l:List At)(i:Nat)(h:i<l.length): (mix l i)[i]?=some l[i].pv:=by
 unfold mix
 have: (dats (l.take i)).length=i:=by simp; omega
 rw[List.getElem?_append_right (by omega),this,Nat.sub_self,List.drop_eq_getElem_cons h]
 rfl
theorem T1n (l:List At)(i:Nat)(h:i<l.length):putC (mix l i) i 4 (.ow 64 2 (cutsL l[i].cuts))=mix l (i+1):=by
 have hg:=Tt8 l i h
 unfold putC
 rw[hg]
 dsimp only
 unfold mix
 have hl: (dats (l.take i)).length=i:=by simp; omega
 rw[List.set_append_right _ _ (by omega),hl,Nat.sub_self,List.drop_eq_getElem_cons h,List.take_succ_eq_append_getElem h]
 have e: (ats (l[i]::l.drop (i+1))).set 0 (l[i].pv.set 4 (.ow 64 2 (cutsL l[i].cuts)))=l[i].dv::ats (l.drop (i+1)):=rfl
 have e2:dats (l.take i++ [l[i]])=dats (l.take i)++ [l[i].dv]:=by unfold dats; rw[List.map_append]; rfl
 rw[e,e2,List.append_assoc]
 rfl
theorem Tt9 (l:List At):plainL (ats l)=true:=by
 simp[plainL,ats,At.pv,PV.noOw]
theorem Tua (l:List At)(hl:l.length<68719476736)(hc:∀ a∈l,a.cuts.length<68719476736):∀(m i:Nat),m+i=l.length ->
 Code (EX cp) L_atom_Copy_0 ⟨[(3,.ms 3 0 l.length),(12,.p (pi l.length)),(13,.p (pi i))],[(3,.dp 62 5 (mix l i))]⟩ =
  some (.ex 0,⟨[(3,.ms 3 0 l.length),(12,.p (pi l.length)),(13,.p (pi l.length)),(14,.p (pb false))],[(3,.dp 62 5 (dats l))]⟩):=by
 intro m
 induction m with
 | zero =>
  intro i hi
  have:i=l.length:=by omega
  subst this
  rw[Txv,L_atom_Copy_0,Taf]
  simp
 | succ m ih =>
  intro i hi
  have hlt:i<l.length:=by omega
  have hg:=Tt8 l i hlt
  have hp:=T1n l i hlt
  have hcl:=hc _ (List.getElem_mem hlt)
  have hr:=Ttp (cp:=cp) (cutsL l[i].cuts) (by intro c h; obtain⟨q,_,rfl⟩:=List.mem_map.1 h; rfl) (by rw[Taq]; omega)
  have ih':=ih (i+1) (by omega)
  generalize l[i]=a at *
  simp only[At.pv]at hg
  rw[← ih',L_atom_Copy_0,Taf]
  simp(disch:=omega)[hlt,hg,hr,hp,Tab,Taa,PV.noOw]
theorem atomCopy (l:List At)(hl:l.length<68719476736)(hc:∀ a∈l,a.cuts.length<68719476736):Run (EX cp) 60 [.sl 5 (ats l)]=some (.deep 62 5 (dats l)):=by
 have h:=Tua (cp:=cp) l hl hc l.length 0 (by omega)
 rw[Txu]at h
 have hcap:l.length*64<=maxBytes/\l.length<=9223372036854775807:=by unfold maxBytes; omega
 have hpl:=Tt9 l
 rw[Tah _ A_atom_Copy _ rfl rfl rfl]
 simp at h
 simp(disch:=omega)[A_atom_Copy,h,hcap,hpl,Taj]
def cutAt (a:At)(rv gr:Int):At:= {a with cuts:=a.cuts++ [(rv,gr)]}
theorem Tq1 (c:List (Int×Int))(a b:Int):cutsL c++ [[pi a,pi b]]=cutsL (c++ [(a,b)]):=by simp[cutsL,cutV]
theorem Tpe (l:List At)(i:Nat)(h:i<l.length): (dats l)[i]?=some l[i].dv:=by simp[dats,List.getElem?_eq_getElem h]
theorem Txw (l:List At)(i:Nat)(h:i<l.length)(rv gr:Int):putC (putC (dats l) i 4 (.ow 0 0 [])) i 4 (.ow 64 2 (cutsL (l[i].cuts++ [(rv,gr)])))=dats (l.set i (cutAt l[i] rv gr)):=by
 have hg:=Tpe l i h
 have e1:putC (dats l) i 4 (.ow 0 0 [])= (dats l).set i (l[i].dv.set 4 (.ow 0 0 [])):=by unfold putC; rw[hg]
 rw[e1]
 unfold putC
 rw[List.getElem?_set_self (by simpa using h)]
 dsimp only
 rw[List.set_set]
 simp[dats,List.map_set,cutAt,At.dv]
theorem Txx (l:List (List PV))(i j:Nat)(x:PV): (putC l i j x).length=l.length:=by
 unfold putC; split<;> simp
def newAts (s:List UInt8)(rv gr rk:Int):List At:= (points s).map fun v=> ⟨chS v,rv,gr,rk,[]⟩
def clampN (i:Int)(n:Nat):Nat:= (min (max i 0) n).toNat
def putL (l:List At)(k:Nat)(s:List UInt8)(rv gr rk:Int):List At:=l.take k++newAts s rv gr rk++l.drop k
theorem Ted (s:List UInt8)(rv gr rk:Int): (newAts s rv gr rk).length= (points s).length:=by simp[newAts]
theorem Tub (s:ByteArray)(i:Nat)(h:i<s.size)(hv:valid ((L s).drop i)=true)(rv gr rk:Int):sizeAt s i≠0/\sc (decAt s i).2/\newAts ((L s).drop i) rv gr rk= ⟨chS (decAt s i).2,rv,gr,rk,[]⟩::newAts ((L s).drop (i+sizeAt s i)) rv gr rk/\valid ((L s).drop (i+sizeAt s i))=true:=by
 rw[Tgs s i h]at hv
 by_cases c:sizeAt s i=0
 · rw[if_pos c]at hv; simp at hv
 · rw[if_neg c]at hv
   refine⟨c,?_,?_,hv⟩
   · rw[Tbe]; unfold sizeAt at c; rw[Tbe]at c; exact Tts _ c
   · unfold newAts; rw[Th0 s i h,if_neg c,List.map_cons]
theorem Txy (l:List At)(k:Nat)(rv gr rk:Int)(s:ByteArray)(hs:s.size<68719476736):∀(m i:Nat) (acc:List At),s.size<=i+m->i<=s.size->acc.length<=68719476736+i->valid ((L s).drop i)=true ->
 ∃ j,Code (EX cp) L_atom_Put_0 ⟨[(0,.p (.sl 5 (ats l))),(1,.p (pi k)),(3,.p (pi rv)),(4,.p (pi gr)),(5,.p (pi rk)),(13,.ms 13 0 acc.length),(27,.mp 27 0 0)],[(13,.row 62 5 false (ats acc)),(27,.it s i)]⟩ =
  some (.ex 0,⟨[(0,.p (.sl 5 (ats l))),(1,.p (pi k)),(3,.p (pi rv)),(4,.p (pi gr)),(5,.p (pi rk)),(13,.ms 13 0 (acc++newAts ((L s).drop i) rv gr rk).length),(27,.mp 27 0 0),(28,.p (.tu [pb false])),(29,.p (pb false))],[(13,.row 62 5 false (ats (acc++newAts ((L s).drop i) rv gr rk))),(27,.it s j)]⟩):=by
 intro m
 induction m with
 | zero =>
  intro i acc h1 h2 h3 h4
  have:i=s.size:=by omega
  subst this
  refine⟨s.size,?_⟩
  rw[Tbx s _ (Nat.le_refl _),L_atom_Put_0,Taf]
  simp[newAts,Tba]
 | succ m ih =>
  intro i acc h1 h2 h3 h4
  by_cases hlt:i<s.size
  · obtain⟨c,hsc,hn,hv⟩:=Tub s i hlt h4 rv gr rk
    have hle:=Td2 s i h2
    have hd:=Tjg s i (by unfold sizeAt at c; rw[Tbe]at c; exact c)
    have e1: (dec ((L s).drop i)).1=sizeAt s i:=by unfold sizeAt; rw[Tbe]
    have e2:dec ((L s).drop i)=decAt s i:= (Tbe s i).symm
    rw[e1,e2]at hd
    have he:=Tjh _ hsc
    have h0:0<= (decAt s i).2:=by unfold sc at hsc; omega
    have h0':max (decAt s i).2 0= (decAt s i).2:=by omega
    rw[hn]
    generalize hz:sizeAt s i=n at *
    generalize(decAt s i).2=v at *
    obtain⟨j,ih'⟩:=ih (i+n) (acc++ [⟨chS v,rv,gr,rk,[]⟩]) (by omega) (by omega) (by simp; omega) hv
    refine⟨j,?_⟩
    have e:acc++ (⟨chS v,rv,gr,rk,[]⟩:At)::newAts ((L s).drop (i+n)) rv gr rk= (acc++ [⟨chS v,rv,gr,rk,[]⟩])++newAts ((L s).drop (i+n)) rv gr rk:=by simp
    have hcap: (acc.length+1)*64<=maxBytes/\acc.length+1<=9223372036854775807:=by unfold maxBytes; omega
    have hpv:ats acc++ [[.sc (.string (chS v)),pi rv,pi gr,pi rk,.sl 2 []]]=ats (acc++ [⟨chS v,rv,gr,rk,[]⟩]):=by simp[ats,At.pv]
    rw[e,← ih',L_atom_Put_0,Taf]
    simp(disch:=omega)[hlt,hd,he,h0',hcap,hpv]
  · have:i=s.size:=by omega
    subst this
    refine⟨s.size,?_⟩
    rw[Tbx s _ (Nat.le_refl _),L_atom_Put_0,Taf]
    simp[newAts,Tba]
theorem Tzj (a b:Int): (if b > a then b else a)=max a b:=by omega
theorem Tzk (a b:Int): (if b<a then b else a)=min a b:=by omega
theorem atomPut (l:List At)(i:Int)(s:ByteArray)(rv gr rk:Int)(hl:l.length<17179869184)(hc:∀ a∈l,a.cuts.length<68719476736)(hs:s.size<4294967296):Run (EX cp) 101 [.sl 5 (ats l),pi i,.sc (.string s),pi rv,pi gr,pi rk]=some (.own 62 5 (ats (putL l (clampN i l.length) (L s) rv gr rk))):=by
 have hk: (clampN i l.length:Int)=min (max i 0) l.length:=by unfold clampN; omega
 have hk2:clampN i l.length<=l.length:=by omega
 generalize clampN i l.length=k at *
 have h1:=atomCopy (cp:=cp) (l.take k) (by rw[List.length_take]; omega) (fun a ha=>hc a (List.mem_of_mem_take ha))
 have h2:=atomCopy (cp:=cp) (l.drop k) (by rw[List.length_drop]; omega) (fun a ha=>hc a (List.mem_of_mem_drop ha))
 have h3:=utfClean (cp:=cp) s (by omega)
 have e3:L (cleanS s)=clean (L s):=L_mk _
 have hcl:=Tkf (L s)
 rw[L_len,← e3,L_len]at hcl
 obtain⟨j,h4⟩:=Txy (cp:=cp) l k rv gr rk (cleanS s) (by omega) (cleanS s).size 0 (l.take k) (by omega) (by omega) (by rw[List.length_take]; omega) (by rw[List.drop_zero,e3]; exact Tdr _)
 rw[List.drop_zero,e3]at h4
 have e5:newAts (clean (L s)) rv gr rk=newAts (L s) rv gr rk:=by unfold newAts; rw[Tt2]
 rw[e5]at h4
 have hpl:=Tda (L s)
 rw[L_len]at hpl
 have hnl:=Ted (L s) rv gr rk
 have hlen: (l.take k).length=k:=by rw[List.length_take]; omega
 have ht: (ats l).take k=ats (l.take k):=by simp[ats,List.map_take]
 have hd: (ats l).drop k=ats (l.drop k):=by simp[ats,List.map_drop]
 have hdl: (l.drop k).length=l.length-k:=List.length_drop
 have htd: ((ats (l.drop k)).take (l.length-k))=ats (l.drop k):=by rw[← hdl,Tkm]
 have hap:=Teb (l.take k++newAts (L s) rv gr rk) (l.drop k)
 have hm1:mnmxs true (pi i) [pi 0]=some (pi (max i 0)):=by
  simp only[mnmxs,mnmx,if_true]
  rw[Tzj]
 have hm2:mnmxs false (pi (max i 0)) [pi l.length]=some (pi k):=by
  simp only[mnmxs,mnmx,Bool.false_eq_true,if_false]
  rw[Tzk,hk]
 have hcap: (k+ (points (L s)).length+ (l.length-k))*64<=maxBytes/\k+ (points (L s)).length+ (l.length-k)<=9223372036854775807:=by unfold maxBytes; omega
 rw[Tah _ A_atom_Put _ rfl rfl rfl]
 simp[hlen,hnl]at h4
 simp(disch:=omega)[A_atom_Put,h1,h2,h3,h4,ht,hd,hm1,hm2,hk2,hcap,hlen,hnl,hdl,htd,hap,Taj,putL,-mnmxs]
end Go.Proofs.YtjpibniecllafaaGreat.AM
end
section
namespace Go.Proofs.YtjpibniecllafaaGreat.AM
open Go Go.Proofs.YtjpibniecllafaaGreat.U
attribute [local simp] cellR thereV RV.sv innE inlE reach pos subH SV.mapr RV.mapr Ob.mapr SV.refs RV.id? RV.ref Ob.refs noRow shnE shrE okK closeB freshs at0 newS leftS finishS oneS manyS allP sameFz Ob.noPin startS entryS List.range_succ List.filterMap_cons List.filterMap_nil SV.rv fzvs fzv liveV liveR rcellss rcells fillQ fixN RV.isNil revO
variable {cp:List PV->Option Ret}
theorem engNew:Run (EX cp) 2000020 [.hp [] []]=some (.shn (.mp 0 0 0) (engH [] [[]] 0 [] [])):=by
 rw[Tbt _ 20 A_engine_New _ _ (by decide) rfl rfl rfl rfl rfl (by simp) (by decide +kernel)]
 simp(disch:=omega)[A_engine_New,engH,Tqx]
theorem engText (l:List At)(U:List (List Int))(fl:Int)(G F:List Int)(r:Int)(hf:Fit l)(hu: (undU U fl r).length<=9223372036854775807)(hr:fl<=r/\r<=fl+U.length-1) :
 Run (EX cp) 2000051 [.hp [.mp 0 0 0,.p (pi r)] (engH (ats l) U fl G F)]=some (.shn (.p (.tu [.sc (.string (txtS r (undU U fl r) l)),pi 0])) []):=by
 have h1:=engLive (cp:=cp) (ats l) U fl G F r
 have h2:=engUndoneAt (cp:=cp) (ats l) U fl G F r
 have h3:=atomText (cp:=cp) l r (undU U fl r) hf hu
 simp only[engH,hr,decide_true,Bool.and_self]at h1 h2
 rw[Tbt _ 51 A_engine_Engine_Text _ _ (by decide) rfl rfl rfl rfl rfl (by simp[engH]) (by decide +kernel)]
 simp(disch:=omega)[A_engine_Engine_Text,engH,h1,h2,h3]
theorem engCopy (l:List At)(U:List (List Int))(fl:Int)(G F:List Int)(hl:l.length<68719476736)(hc:∀ a∈l,a.cuts.length<68719476736) :
 Run (EX cp) 2000053 [.hp [.mp 0 0 0] (engH (ats l) U fl G F)]=some (.shn (.mp 2 0 0) [(2,.gr 100 2 [[.p (.sl 5 (ats l)),.mo 3]]),(3,.mpo U fl G F)]):=by
 have h1:=atomCopy (cp:=cp) l hl hc
 rw[Tbt _ 53 A_engine_Engine_Copy _ _ (by decide) rfl rfl rfl rfl rfl (by simp[engH]) (by decide +kernel)]
 simp(disch:=omega)[A_engine_Engine_Copy,engH,h1,Tnd]
theorem Tq2 (l:List (List PV))(U:List (List Int))(fl:Int)(G F:List Int)(r:Int)(hr:¬ (fl<=r/\r<=fl+U.length-1)) :
 Run (EX cp) 2000051 [.hp [.mp 0 0 0,.p (pi r)] (engH l U fl G F)]=some (.shn (.p (.tu [.sc (.string ByteArray.empty),pi 190])) []):=by
 have h1:=engLive (cp:=cp) l U fl G F r
 have e1: (decide (fl<=r)&&decide (r<=fl+U.length-1))=false:=by simp; omega
 rw[e1]at h1
 simp only[engH]at h1
 rw[Tbt _ 51 A_engine_Engine_Text _ _ (by decide) rfl rfl rfl rfl rfl (by simp[engH]) (by decide +kernel)]
 simp(disch:=omega)[A_engine_Engine_Text,engH,h1]
 rfl
def headT (l:List At)(U:List (List Int))(fl:Int):ByteArray:=txtS (fl+U.length-1) (undU U fl (fl+U.length-1)) l
theorem engFits (l:List At)(U:List (List Int))(fl:Int)(G F:List Int)(hf:Fit l)(hU:1<=U.length)(hu: (undU U fl (fl+U.length-1)).length<=9223372036854775807) :
 Run (EX cp) 2000057 [.hp [.mp 0 0 0] (engH (ats l) U fl G F)]=some (.shn (.p (pb (decide (((headT l U fl).size:Int)<=20000)))) []):=by
 have h1:=engHead (cp:=cp) (ats l) U fl G F
 have h2:=engText (cp:=cp) l U fl G F (fl+U.length-1) hf hu (by omega)
 simp only[engH]at h1 h2
 rw[Tbt _ 57 A_engine_Engine_fits _ _ (by decide) rfl rfl rfl rfl rfl (by simp[engH]) (by decide +kernel)]
 simp(disch:=omega)[A_engine_Engine_fits,engH,h1,h2,headT]
 exact decide_eq_decide.2 Iff.rfl
def engH2 (l:List (List PV))(U:List (List Int))(fl:Int)(G F:List Int)(U':List (List Int))(fl':Int)(G' F':List Int):List (Nat×Ob):= [(0,.gr 100 2 [[.p (.sl 5 l),.mo 2]]),(1,.mpo U fl G F),(2,.mpo U' fl' G' F')]
def togU (U:List (List Int))(g:Int):List (List Int):=U++ [if g∈lastS U then delS g (lastS U)else insS g (lastS U)]
end Go.Proofs.YtjpibniecllafaaGreat.AM
end
section
namespace Go.Proofs.YtjpibniecllafaaGreat.AM
open Go Go.Proofs.YtjpibniecllafaaGreat.U
variable {cp:List PV->Option Ret}
def inn (n a b:Int):Bool:=decide (a<=n)&&decide (n<=b)
theorem wt_u8 {x:PV}(h:WT (.i .u8) x):∃ b:UInt8,x= .sc (.int .u8 b.toNat):=by
 cases h with
 | i hw =>
  rename_i n
  have h1:0<=n/\n<=255:=by
   simp[Lit.wf,IntKind.min,IntKind.max,IntKind.signed,IntKind.bits]at hw
   exact hw
  refine⟨UInt8.ofNat n.toNat,?_⟩
  rw[UInt8.toNat_ofNat']
  congr 2
  omega
theorem wt_tx {x:PV}(h:WT .tx x):∃ s:ByteArray,x= .sc (.string s)/\s.size<=9223372036854775807:=by
 cases h with
 | s hs=>exact⟨_,rfl,by simpa[maxLen]using hs⟩
theorem T3s {x:PV}(h:WTA (.one .tx) x):∃ s:ByteArray,x= .sc (.string s)/\s.size<=9223372036854775807:=by
 cases h with
 | one h=>exact wt_tx h
theorem T1o {x:PV}(h:WTA (.one (.i .u8)) x):∃ b:UInt8,x= .sc (.int .u8 b.toNat):=by
 cases h with
 | one h=>exact wt_u8 h
theorem Txz (a b:Nat): ((a:Int).tmod (b:Int))= ((a % b:Nat):Int):=by rw[Int.tmod_eq_emod_of_nonneg (by omega)]; rfl
def APinv (ts:List ByteArray)(n:Nat)(l:List At):Prop:= (l.map fun a=>a.txt)=ts/\∀ a∈l,a.rv=1/\a.gr=0/\a.cuts.length<=n/\∀ q∈a.cuts,q= (2,1)
theorem APinv.len {ts:List ByteArray}{n:Nat}{l:List At}(h:APinv ts n l):l.length=ts.length:=by rw[← h.1]; simp
theorem Tpf (rev:Int)(u:List Int):∀(l:List At),(∀ a∈l,a.vis rev u=true)->txtF rev u l= (l.map fun a=>a.txt).flatMap L
 | [],_=>rfl
 | a::l,h=>by
  rw[txtF,h a (by simp),if_pos rfl,Tpf rev u l fun b hb=>h b (by simp[hb])]
  simp
theorem Tl2 (rev:Int)(u:List Int):∀(l:List At),(∀ a∈l,a.vis rev u=false)->txtF rev u l= []
 | [],_=>rfl
 | a::l,h=>by
  rw[txtF,h a (by simp),Tl2 rev u l fun b hb=>h b (by simp[hb])]
  rfl
theorem Tni (s:List UInt8)(rv gr rk:Int): ((newAts s rv gr rk).map fun a=>a.txt)=ptsS s:=by
 simp[newAts,ptsS,Function.comp_def]
theorem Tuc (l:List UInt8): (ptsS l).flatMap L=clean l:=by
 unfold ptsS clean encs
 rw[List.flatMap_map]
 congr 1
theorem Tx0 (k:Nat)(s:List UInt8)(rv gr rk:Int):putL [] k s rv gr rk=newAts s rv gr rk:=by simp[putL]
end Go.Proofs.YtjpibniecllafaaGreat.AM
end
section
namespace Go.Proofs.YtjpibniecllafaaGreat.AM
open Go Go.Proofs.YtjpibniecllafaaGreat.U
variable {cp:List PV->Option Ret}
deriving instance DecidableEq for At
attribute [local simp] eqCells
end Go.Proofs.YtjpibniecllafaaGreat.AM
end
section
namespace Go.Proofs.YtjpibniecllafaaGreat.AM
open Go
theorem okB0: ((List.range 81).all fun n=>match prg0 n with | some fn=>okFunc Go.Proofs.Tryz.prog n fn | none=>true)=true:=by decide +kernel
theorem okPrg0 (f:FuncId)(fn:AFunc)(hf:f<=80)(h:prg0 f=some fn):okFunc Go.Proofs.Tryz.prog f fn=true:=by
 have:=List.all_eq_true.1 okB0 f (List.mem_range.2 (Nat.lt_succ_of_le hf))
 simp only[h]at this
 exact this
theorem okB1: ((List.range 141).all fun n=>match prg1 n with | some fn=>okFunc Go.Proofs.Tryz.prog n fn | none=>true)=true:=by decide +kernel
theorem okPrg1 (f:FuncId)(fn:AFunc)(hf:f<=140)(h:prg1 f=some fn):okFunc Go.Proofs.Tryz.prog f fn=true:=by
 have:=List.all_eq_true.1 okB1 f (List.mem_range.2 (Nat.lt_succ_of_le hf))
 simp only[h]at this
 exact this
theorem okB2: ((List.range 208).all fun n=>match prg2 n with | some fn=>okFunc Go.Proofs.Tryz.prog n fn | none=>true)=true:=by decide +kernel
theorem okPrg2 (f:FuncId)(fn:AFunc)(hf:f<=207)(h:prg2 f=some fn):okFunc Go.Proofs.Tryz.prog f fn=true:=by
 have:=List.all_eq_true.1 okB2 f (List.mem_range.2 (Nat.lt_succ_of_le hf))
 simp only[h]at this
 exact this
theorem okB3: ((List.range 284).all fun n=>match prg3 n with | some fn=>okFunc Go.Proofs.Tryz.prog n fn | none=>true)=true:=by decide +kernel
theorem okPrg3 (f:FuncId)(fn:AFunc)(hf:f<=283)(h:prg3 f=some fn):okFunc Go.Proofs.Tryz.prog f fn=true:=by
 have:=List.all_eq_true.1 okB3 f (List.mem_range.2 (Nat.lt_succ_of_le hf))
 simp only[h]at this
 exact this
theorem okPrg:∀ f fn,prg f=some fn->okFunc Go.Proofs.Tryz.prog f fn=true:=by
 intro f fn h
 unfold prg at h
 by_cases h0:f<=80
 · rw[if_pos h0]at h; exact okPrg0 f fn h0 h
 rw[if_neg h0]at h
 by_cases h1:f<=140
 · rw[if_pos h1]at h; exact okPrg1 f fn h1 h
 rw[if_neg h1]at h
 by_cases h2:f<=207
 · rw[if_pos h2]at h; exact okPrg2 f fn h2 h
 rw[if_neg h2]at h
 by_cases h3:f<=283
 · rw[if_pos h3]at h; exact okPrg3 f fn h3 h
 rw[if_neg h3]at h
 cases h
theorem mixed:Go.Proofs.Tryz.prog.follows .mixedOrders=true:=by kernel_rfl
end Go.Proofs.YtjpibniecllafaaGreat.AM
end
section
namespace Go.Proofs.YtjpibniecllafaaGreat.AM
open Go.RowKit
theorem Tud (w:World)(g n k:Nat)(h:k≠g): (w.freeze ⟨g,0,none⟩ n).heap[k]?=w.heap[k]?:=by
 unfold World.freeze
 split
 · rfl
 · simp[Array.getElem?_modify,Ne.symm h]
theorem Tue:Tryz.prog.cellsOf 5=1:=by kernel_rfl
set_option maxRecDepth 100000 in
theorem sbString:SbString Tryz.prog 145 5 86:=by
 intro B b p v l w hB hBw hp hg hown hne
 have mixed:Tryz.prog.follows .mixedOrders=true:=by kernel_rfl
 have hlt:b<w.heap.size:= (Array.getElem?_eq_some_iff.1 hg).1
 rcases hown.2 with⟨rfl,hz⟩ | ⟨g,cap,cur,rfl,hbg,hgg,hnc,hcm,hcs,htake⟩
 · have hl:l= []:=List.eq_nil_of_length_eq_zero hz
   subst hl
   have hUS:∀ q W,(Builtin.unsafeString_ #[211,3] 9 #[.pointer q,.int .i64 0]).run Tryz.prog W= .ok (.string .empty) W:=fun q W=>Lib.run_unsafeString_none W _ _ _ q
   have c1:w.drew.cell? ⟨b,1,none⟩=some (.slice none 0 0):=by
    have:w.drew.heap[b]?=some (.cells #[p,.slice none 0 0] 145 (0,0)):=hg
    rw[Lib.cell_of_heap this]; rfl
   have hSD: (Builtin.unsafeSliceData_ #[44] 211 #[.slice none 0 0]).run Tryz.prog w.drew= .ok (.pointer none) w.drew:=rfl
   go_enter Tryz.func86,Tryz.ntmps86
   go_wp2
   go_region_o
   all_goals (go_wp2; go_ret; exact⟨rfl,Below.drew (Below.refl B w),fun k _ _=>rfl⟩)
 · by_cases h0:l= []
   · subst h0
     have hUS:∀ q W,(Builtin.unsafeString_ #[211,3] 9 #[.pointer q,.int .i64 0]).run Tryz.prog W= .ok (.string .empty) W:=fun q W=>Lib.run_unsafeString_none W _ _ _ q
     have c1:w.drew.cell? ⟨b,1,none⟩=some (.slice (some ⟨g,0,none⟩) 0 cap):=by
      have:w.drew.heap[b]?=some (.cells #[p,.slice (some ⟨g,0,none⟩) 0 cap] 145 (0,0)):=hg
      rw[Lib.cell_of_heap this]; rfl
     by_cases hc0:cap=0
     · subst hc0
       have hSD: (Builtin.unsafeSliceData_ #[44] 211 #[.slice (some ⟨g,0,none⟩) 0 0]).run Tryz.prog w.drew= .ok (.pointer (some ⟨w.drew.heap.size,0,none⟩)) (w.drew.alloc (.view ⟨g,0,none⟩ 5)) :=
        Lib.run_unsafeSliceData_zero w.drew _ _ 5 Tryz.underlying211 ⟨g,0,none⟩ 0 (5,cur.size) (by have hg':w.drew.heap[g]?=some (.cells cur 5 (0,0)):=hgg; simp[World.shape?,hg'])
       have c2: (w.drew.alloc (.view ⟨g,0,none⟩ 5)).cell? ⟨b,1,none⟩=some (.slice (some ⟨g,0,none⟩) 0 0):=by
        have: (w.drew.alloc (.view ⟨g,0,none⟩ 5)).heap[b]?=_:= (Lib.alloc_old w.drew _ b hlt).trans hg
        rw[Lib.cell_of_heap this]; rfl
       have c3: (w.alloc (.view ⟨g,0,none⟩ 5)).drew.cell? ⟨b,1,none⟩=some (.slice (some ⟨g,0,none⟩) 0 0):=c2
       have c0:w.cell? ⟨b,1,none⟩=some (.slice (some ⟨g,0,none⟩) 0 0):=c1
       go_enter Tryz.func86,Tryz.ntmps86
       go_wp2
       go_region_o
       all_goals (go_wp2; go_ret; exact⟨rfl,(Below.drew (Below.refl B w)).alloc hBw _,fun k hk _=>Lib.alloc_old _ _ k hk⟩)
     · have hSD: (Builtin.unsafeSliceData_ #[44] 211 #[.slice (some ⟨g,0,none⟩) 0 cap]).run Tryz.prog w.drew= .ok (.pointer (some ⟨g,0,none⟩)) w.drew :=
        Lib.run_unsafeSliceData_row _ _ _ _ _ _ hc0
       clear hc0
       go_enter Tryz.func86,Tryz.ntmps86
       go_wp2
       go_region_o
       all_goals (go_wp2; go_ret; exact⟨rfl,Below.drew (Below.refl B w),fun k _ _=>rfl⟩)
   · have hl0:l.length≠0:=by simpa using h0
     have c1:w.drew.cell? ⟨b,1,none⟩=some (.slice (some ⟨g,0,none⟩) l.length cap):=by
      have:w.drew.heap[b]?=some (.cells #[p,.slice (some ⟨g,0,none⟩) l.length cap] 145 (0,0)):=hg
      rw[Lib.cell_of_heap this]; rfl
     have hSD: (Builtin.unsafeSliceData_ #[44] 211 #[.slice (some ⟨g,0,none⟩) l.length cap]).run Tryz.prog w.drew= .ok (.pointer (some ⟨g,0,none⟩)) w.drew :=
      Lib.run_unsafeSliceData_row _ _ _ _ _ _ (by omega)
     have hUS: (Builtin.unsafeString_ #[211,3] 9 #[.pointer (some ⟨g,0,none⟩),.int .i64 l.length]).run Tryz.prog w.drew= .ok (.string ⟨l.toArray⟩) (w.drew.freeze ⟨g,0,none⟩ l.length):=by
      refine Lib.run_unsafeString_row w.drew 211 3 9 5 Tryz.underlying211 Tue g cur.size (by have hg':w.drew.heap[g]?=some (.cells cur 5 (0,0)):=hgg; simp[World.shape?,hg']) l h0 (by omega) (by unfold maxLen at hcm; omega) ?_
      intro j x hx
      have h1:=cell_of_row w g j cur 5 (0,0) hgg
      have h2:cur[j]?=some (Value.int .u8 x.toNat):=by
       have h3: (cur.toList.take (l.length*1))[j]?=some (Value.int .u8 x.toNat):=by rw[htake]; simp[hx]
       rw[List.getElem?_take]at h3
       split at h3
       · simpa using h3
       · simp at h3
      rw[add_n,Nat.zero_add]
      exact h1.trans h2
     go_enter Tryz.func86,Tryz.ntmps86
     go_wp2
     go_region_o
     all_goals (go_wp2; go_ret; exact⟨rfl,Lib.below_freeze (Below.drew (Below.refl B w)) (p:= ⟨g,0,none⟩) hbg _,fun k _ hk=>Tud _ g _ k fun e=>hk (by rw[e]; rfl)⟩)
theorem Tuf: (Tryz.prog.info? 145).map (·.size)=some 2:=by kernel_rfl
theorem T1p:liesAt Tryz.prog Tryz.prog.depth 145 (2 / Tryz.prog.cellsOf 145) 0 145 1=true:=by kernel_rfl
theorem sb_el:elOk Tryz.prog 5 1 1=true:=by decide +kernel
set_option maxRecDepth 100000 in
theorem Tkn (b:Nat)(w:World)(h0:w.cell? ⟨b,0,none⟩=some (.pointer (some ⟨b,0,none⟩))) :
 Calls Tryz.prog 150 #[.pointer (some ⟨b,0,none⟩)] w fun e w'=>e= .returned (.tuple #[])/\w'=w:=by
 obtain⟨j,hj,_⟩:=Option.map_eq_some_iff.1 Tuf
 go_enter Tryz.func150,Tryz.ntmps150
 go_wp2
 rw[Lib.run_neq_ptr_same w _ Tryz.underlying143 hj]
 go_wp2
 go_end0
 exact⟨rfl,rfl⟩
set_option maxRecDepth 100000 in
theorem Tip (b:Nat)(w:World)(h0:w.cell? ⟨b,0,none⟩=some (.pointer none))(hsh:w.shape? b=some (145,2))(hfz:w.frozen? ⟨b,0,none⟩=false) :
 Calls Tryz.prog 150 #[.pointer (some ⟨b,0,none⟩)] w fun e w'=>e= .returned (.tuple #[])/\w'=w.setCell ⟨b,0,none⟩ (.pointer (some ⟨b,0,none⟩)):=by
 obtain⟨j,hj,hjs⟩:=Option.map_eq_some_iff.1 Tuf
 go_enter Tryz.func150,Tryz.ntmps150
 go_wp2
 rw[Lib.run_to_unsafe w ⟨b,0,none⟩ Tryz.underlying143 Tryz.underlying246 hj (by rw[hjs]; decide) hsh (Nat.zero_lt_succ 1)]
 simp only[Result.andThen]
 rw[Oper.upon_value]
 go_wp2
 rw[run_callFunc_extern Tryz.func197 (by kernel_rfl) (by kernel_rfl) (by kernel_rfl) (e:=Extern.AbiNoEscape.same) (by kernel_rfl)]
 rw[Lib.run_noEscape]
 simp only[Result.andThen]
 rw[Oper.upon_value]
 go_wp2
 rw[Lib.run_from_unsafe w ⟨b,0,none⟩ Tryz.underlying246 Tryz.underlying143 hj hsh T1p]
 simp only[Result.andThen]
 rw[Oper.upon_value]
 go_wp2
 go_end0
 exact⟨rfl,rfl⟩
theorem Tug {w:World}{base e n k:Nat}{v:Value}{xs:List Value}(h:w.ownsRow base e k v n xs):v.oneCell'=true:=by
 rcases h.2 with⟨rfl,_⟩ | ⟨_,_,_,rfl,_⟩<;> rfl
theorem Tpg (B b:Nat)(p v:Value)(w:World)(hB:B<=b)(hp:p= .pointer none∨p= .pointer (some ⟨b,0,none⟩))(hg:w.heap[b]?=some (.cells #[p,v] 145 (0,0))) :
 Calls Tryz.prog 150 #[.pointer (some ⟨b,0,none⟩)] w fun e w'=>e= .returned (.tuple #[])/\w'.heap[b]?=some (.cells #[.pointer (some ⟨b,0,none⟩),v] 145 (0,0))/\Below B w w'/\w'.heap.size=w.heap.size/\∀ k,k≠b->w'.heap[k]?=w.heap[k]?:=by
 have hlt:b<w.heap.size:= (Array.getElem?_eq_some_iff.1 hg).1
 rcases hp with rfl | rfl
 · refine(Tip b w (by rw[Lib.cell_of_heap hg]; rfl) (by simp[World.shape?,hg]) (Lib.frozen_of_heap hg 0)).mono ?_
   rintro e w' ⟨rfl,rfl⟩
   have hset: (w.setCell ⟨b,0,none⟩ (.pointer (some ⟨b,0,none⟩))).heap[b]?=some (.cells #[.pointer (some ⟨b,0,none⟩),v] 145 (0,0)):=by
    simp[World.setCell,Array.getElem?_modify,hg]
   exact⟨rfl,hset,(Below.refl B w).setCell (p:= ⟨b,0,none⟩) hB _,by simp[World.setCell],fun k hk=>Below.heap_setCell _ _ _ _ hk⟩
 · refine(Tkn b w (by rw[Lib.cell_of_heap hg]; rfl)).mono ?_
   rintro e w' ⟨rfl,rfl⟩
   exact⟨rfl,hg,Below.refl B _,rfl,fun _ _=>rfl⟩
theorem Tuh {B:Nat}{v:Value}{n:Nat}{xs:List Value}(w:World)(t:ByteArray)(ty:TypeId)(hown:w.ownsRow B 5 1 v n xs)(hby:n+t.size<=140737488355328)(hB:B<=w.heap.size) :
 ∃ v' w',(Builtin.append_ #[44,9] ty #[v,.string t]).run Tryz.prog w= .ok v' w'/\w'.ownsRow B 5 1 v' (n+t.size) (xs++t.data.toList.map fun c=>Value.int .u8 c.toNat) /\
  ((blk v'=blk v/\w'.os=w.os/\w'.tape=w.tape/\w'.output=w.output/\w'.heap.size=w.heap.size/\∀ b,blk v≠some b->w'.heap[b]?=w.heap[b]?)∨ (blk v'=some w.heap.size/\Below w.heap.size w w')):=by
 obtain⟨i,z,hi,hz,hi1,hby1,hzs⟩:=Tbp sb_el
 have hbl: (t.data.toList.map fun c=>Value.int .u8 c.toNat).length=t.size:=by simp
 have:=Tg8 (P:=Tryz.prog) (ty:=ty) (x:= .string t) (m:=t.size) (n:=n) (news:=t.data.toList.map fun c=>Value.int .u8 c.toNat) Tryz.underlying44 Tryz.underlying9 (by simp) hi hz (by rw[hzs,hi1]) (by rw[hi1]; exact hown) (by rw[hbl,hi1,Nat.mul_one]) (by simp[Value.oneCell']) (fun w'=>rfl) (fun w' _=>by
  rw[hi1]
  have:=Lib.run_firstCells_string (P:=Tryz.prog) w' 1 t
  rw[this]; rfl) (by simp only[maxLen]; omega) (by rw[hby1,Nat.mul_one]; exact hby) hB
 rw[hi1]at this
 exact this
theorem Tui {ops:Array Oper}{rest:List Oper}{o:Oper}{a:Act}{Q:Exit->Act->World->Prop}{w:World}(hgd:o.guard=none)(sl x:Operand)(ho:o.op= .call {callee:= .builtin .append,args:= #[sl,x],argTypes:= #[44,9]})
 (B:Nat) (v:Value) (n:Nat) (xs:List Value) (hs:a.eval sl=v) (hown:w.ownsRow B 5 1 v n xs) (t:ByteArray) (hx:a.eval x= .string t) (hby:n+t.size<=140737488355328) (hB:B<=w.heap.size)
 (h:∀ v' w',w'.ownsRow B 5 1 v' (n+t.size) (xs++t.data.toList.map fun c=>Value.int .u8 c.toNat)-> ((blk v'=blk v/\w'.os=w.os/\w'.tape=w.tape/\w'.output=w.output/\w'.heap.size=w.heap.size/\∀ b,blk v≠some b->w'.heap[b]?=w.heap[b]?)∨ (blk v'=some w.heap.size/\Below w.heap.size w w'))->wpList Tryz.prog ops Q rest (a.put o.dst v') w'):wpList Tryz.prog ops Q (o::rest) a w:=by
 refine wpList_plain hgd fun K hK=> ?_
 obtain⟨v',w',hr,h2,h3⟩:=Tuh w t o.type hown hby hB
 unfold Oper.wp execOp
 simp only[ho,resolve,invoke,builtin,Sem.run_bind,Sem.run_pure,Result.andThen_ok,List.map_toArray,List.map_cons,List.map_nil,hs,hx,hr]
 exact hK _ _ (h v' w' h2 h3)
set_option maxRecDepth 100000 in
theorem sbWrite:SbWrite Tryz.prog 145 5 85:=by
 intro B b p v bs t w hB hBw hp hg hown hne hle
 have hlt:b<w.heap.size:= (Array.getElem?_eq_some_iff.1 hg).1
 go_enter Tryz.func85,Tryz.ntmps85
 go_wp2_with (go_at_call 150; refine(Tpg B b p v _ hB hp hg).mono ?_)
 rintro e w1 ⟨rfl,hg1,hb1,hs1,hk1⟩
 have c0:w1.cell? ⟨b,0,none⟩=some (.pointer (some ⟨b,0,none⟩)):=by rw[Lib.cell_of_heap hg1]; rfl
 have c1:w1.cell? ⟨b,1,none⟩=some v:=by rw[Lib.cell_of_heap hg1]; rfl
 have hown1:w1.ownsRow B 5 1 v bs.length bs:=Tav hown fun b' hb'=>hk1 b' fun e=>hne (by rw[← e]; exact hb')
 go_wp2_with (at_builtin; refine Tui rfl _ _ rfl B _ _ _ rfl hown1 t rfl ?c4 ?c5 ?_)
 case c4=>simpa[maxBytes]using hle
 case c5=>omega
 intro v' w2 hown' hcase
 have hkeep:∀ k,k<w1.heap.size->blk v≠some k->w2.heap[k]?=w1.heap[k]?:=fun k h1 h2=>by
  rcases hcase with⟨_,_,_,_,_,h⟩ | ⟨_,h⟩
  · exact h k h2
  · exact h.block k (by omega)
 have hsz:w1.heap.size<=w2.heap.size:=by
  rcases hcase with⟨_,_,_,_,h,_⟩ | ⟨_,h⟩
  · omega
  · exact h.size
 have hb2:w2.heap[b]?=some (.cells #[.pointer (some ⟨b,0,none⟩),v] 145 (0,0)):=by
  rw[hkeep b (by omega) hne]; exact hg1
 have hbel:Below B w1 w2:=by
  rcases hcase with⟨h0,h1,h2,h3,h4,h5⟩ | ⟨_,h⟩
  · refine⟨h1,h2,h3,by omega,fun k hk=>h5 k fun e=> ?_⟩
    have:= (Tar hown1 e).1
    omega
  · exact h.mono (by omega)
 have d0:w2.cell? ⟨b,0,none⟩=some (.pointer (some ⟨b,0,none⟩)):=by rw[Lib.cell_of_heap hb2]; rfl
 have d1:w2.cell? ⟨b,1,none⟩=some v:=by rw[Lib.cell_of_heap hb2]; rfl
 have f1:w2.frozen? ⟨b,1,none⟩=false:=Lib.frozen_of_heap hb2 1
 have hv1:v'.oneCell'=true:=Tug hown'
 obtain⟨ao,n',cap,rfl⟩:∃ ao n' cap,v'= .slice ao n' cap:=by
  rcases hown'.2 with⟨h,_⟩ | ⟨_,_,_,h,_⟩
  · exact⟨_,_,_,h⟩
  · exact⟨_,_,_,h⟩
 go_wp2
 go_ret2
 have hnb:blk (.slice ao n' cap)≠some b:=fun e=>by
  rcases hcase with⟨h,_⟩ | ⟨h,_⟩
  · rw[h]at e; exact hne e
  · rw[h]at e; simp at e; omega
 refine⟨rfl,.slice ao n' cap,?_,?_,?_,?_,?_⟩
 · simp[World.setCell,Array.getElem?_modify,hb2]
 · exact Tav hown' fun k hk=>Below.heap_setCell _ _ _ _ fun e=>hnb (by rw[hk]; rw[e])
 · rcases hcase with⟨h,_⟩ | ⟨h,_⟩
   · exact .inl h
   · exact .inr ⟨_,h,by omega⟩
 · exact(hb1.trans hbel).setCell (p:= ⟨b,1,none⟩) hB _
 · intro k h1 h2 h3
   rw[Below.heap_setCell _ _ _ _ h2,hkeep k (by omega) h3,hk1 k h2]
def Grew (w w':World)(v v':Value):Prop:= (blk v'=blk v/\w'.os=w.os/\w'.tape=w.tape/\w'.output=w.output/\w.heap.size<=w'.heap.size/\∀ b,b<w.heap.size->blk v≠some b->w'.heap[b]?=w.heap[b]?)∨ ((∃ c,blk v'=some c/\w.heap.size<=c)/\Below w.heap.size w w')
def GrewAt (w w':World)(v v':Value):Prop:= ((blk v'=blk v/\w'.os=w.os/\w'.tape=w.tape/\w'.output=w.output/\w'.heap.size=w.heap.size/\∀ b,blk v≠some b->w'.heap[b]?=w.heap[b]?)∨ (blk v'=some w.heap.size/\Below w.heap.size w w'))
theorem Tb0 {ops:Array Oper}{rest:List Oper}{o:Oper}{a:Act}{Q:Exit->Act->World->Prop}{w:World}(hgd:o.guard=none)(sl x:Operand)(ho:o.op= .call {callee:= .builtin .append,args:= #[sl,x],argTypes:= #[44,44]})
 (B:Nat) (v:Value) (n:Nat) (xs:List Value) (hs:a.eval sl=v) (hown:w.ownsRow B 5 1 v n xs) (ad:Addr) (m c:Nat) (news:List Value) (hx:a.eval x= .slice (some ad) m c) (hl:news.length=m) (hnews:∀ j u,news[j]?=some u->w.cell? (ad.add j)=some u) (h1:∀ u∈news,u.oneCell'=true)
 (hby:n+m<=140737488355328) (hB:B<=w.heap.size)
 (h:∀ v' w',w'.ownsRow B 5 1 v' (n+m) (xs++news)->GrewAt w w' v v'->wpList Tryz.prog ops Q rest (a.put o.dst v') w'):wpList Tryz.prog ops Q (o::rest) a w:=by
 refine wpList_plain hgd fun K hK=> ?_
 obtain⟨i,z,hi,hz,hi1,hby1,hzs⟩:=Tbp sb_el
 obtain⟨v',w',hr,h2,h3⟩:=Tg8 (P:=Tryz.prog) (ty:=o.type) (x:= .slice (some ad) m c) (m:=m) (n:=n) (news:=news) Tryz.underlying44 Tryz.underlying44 (by simp) hi hz (by rw[hzs,hi1]) (by rw[hi1]; exact hown) (by rw[hi1,Nat.mul_one]; exact hl) h1 (fun w'=>rfl) (fun w' hw'=>by
  rw[hi1]
  exact run_firstCells_some (w:=w') (size:=1) (n:=m) (b:=ad) (len:=m) (cap:=c) (cs:=news) (by rw[Nat.mul_one]; exact hl) (fun j u hu=> (World.cell?_of_block (a:=ad.add j) (by rw[hw'])).trans (hnews j u hu))) (by simp only[maxLen]; omega) (by rw[hby1,Nat.mul_one]; exact hby) hB
 rw[hi1]at h2
 unfold Oper.wp execOp
 simp only[ho,resolve,invoke,builtin,Sem.run_bind,Sem.run_pure,Result.andThen_ok,List.map_toArray,List.map_cons,List.map_nil,hs,hx,hr]
 exact hK _ _ (h v' w' h2 h3)
theorem Tb1 {w w':World}{v v':Value}{o:Obj}(hv:∀ b,blk v=some b->b<w.heap.size)(h:GrewAt (w.alloc o) w' v v'):Grew w w' v v':=by
 have hb:= (Below.refl w.heap.size w).alloc (Nat.le_refl _) o
 rcases h with⟨h0,h1,h2,h3,h4,h5⟩ | ⟨h0,h1⟩
 · refine .inl ⟨h0,h1.trans hb.os,h2.trans hb.tape,h3.trans hb.output,by rw[h4]; exact hb.size,fun b hb1 hb2=> (h5 b hb2).trans (Lib.alloc_old _ _ _ hb1)⟩
 · exact .inr ⟨⟨_,h0,hb.size⟩,hb.trans (h1.mono hb.size)⟩
set_option maxRecDepth 100000 in
theorem T3t (B:Nat)(v:Value)(n:Nat)(xs:List Value)(r:Int)(h0:128<=r)(h1:r<=2047)(w:World)(hown:w.ownsRow B 5 1 v n xs)(hlen:n+4<=140737488355328)(hBw:B<=w.heap.size) :
    Calls Tryz.prog 233 #[v,.int .i32 r] w fun e w'=>∃ v',e= .returned v'/\w'.ownsRow B 5 1 v' (n+2) (xs++ [.int .u8 (192+r / 64),.int .u8 (128+r % 64)])/\Grew w w' v v':=by
  have hvb:∀ b,blk v=some b->b<w.heap.size:=fun b hb=> (Tar hown hb).2
  go_enter Tryz.func233,Tryz.ntmps233
  go_wp2_with (at_builtin; refine Tb0 rfl _ _ rfl B _ _ _ rfl (hown.alloc _) ⟨w.heap.size,0,none⟩ 2 2 [.int .u8 (192+r / 64),.int .u8 (128+r % 64)] rfl rfl ?c1 ?c2 ?c4 ?c5 ?_)
  all_goals first
    | (intro v' w2 hown' hgrow; go_wp2; go_ret; exact⟨v',rfl,hown',Tb1 hvb hgrow⟩)
    | omega
    | exact⟨rfl,rfl,rfl⟩
    | (simp; omega)
    | (intro u hu; simp at hu; rcases hu with rfl | rfl<;> rfl)
    | (intro j u hj
       match j,hj with
       | 0,hj=>simp at hj; subst hj; simp[Addr.add]
       | 1,hj=>simp at hj; subst hj; simp[Addr.add]
       | (j+2),hj=>simp at hj)
set_option maxRecDepth 100000 in
theorem Tnj (B:Nat)(v:Value)(n:Nat)(xs:List Value)(r:Int)(h0:2048<=r)(h1:r<55296)(w:World)(hown:w.ownsRow B 5 1 v n xs)(hlen:n+4<=140737488355328)(hBw:B<=w.heap.size) :
    Calls Tryz.prog 233 #[v,.int .i32 r] w fun e w'=>∃ v',e= .returned v'/\w'.ownsRow B 5 1 v' (n+3) (xs++ [.int .u8 (224+r / 4096),.int .u8 (128+r / 64 % 64),.int .u8 (128+r % 64)])/\Grew w w' v v':=by
  have hvb:∀ b,blk v=some b->b<w.heap.size:=fun b hb=> (Tar hown hb).2
  go_enter Tryz.func233,Tryz.ntmps233
  go_wp2_with (at_builtin; refine Tb0 rfl _ _ rfl B _ _ _ rfl (hown.alloc _) ⟨w.heap.size,0,none⟩ 3 3 [.int .u8 (224+r / 4096),.int .u8 (128+r / 64 % 64),.int .u8 (128+r % 64)] rfl rfl ?c1 ?c2 ?c4 ?c5 ?_)
  all_goals first
    | (intro v' w2 hown' hgrow; go_wp2; go_ret; exact⟨v',rfl,hown',Tb1 hvb hgrow⟩)
    | omega
    | exact⟨rfl,rfl,rfl⟩
    | (simp; omega)
    | (intro u hu; simp at hu; rcases hu with rfl | rfl | rfl<;> rfl)
    | (intro j u hj
       match j,hj with
       | 0,hj=>simp at hj; subst hj; simp[Addr.add]
       | 1,hj=>simp at hj; subst hj; simp[Addr.add]
       | 2,hj=>simp at hj; subst hj; simp[Addr.add]
       | (j+3),hj=>simp at hj)
set_option maxRecDepth 100000 in
theorem Tnk (B:Nat)(v:Value)(n:Nat)(xs:List Value)(r:Int)(h0:57343<r)(h1:r<=65535)(w:World)(hown:w.ownsRow B 5 1 v n xs)(hlen:n+4<=140737488355328)(hBw:B<=w.heap.size) :
    Calls Tryz.prog 233 #[v,.int .i32 r] w fun e w'=>∃ v',e= .returned v'/\w'.ownsRow B 5 1 v' (n+3) (xs++ [.int .u8 (224+r / 4096),.int .u8 (128+r / 64 % 64),.int .u8 (128+r % 64)])/\Grew w w' v v':=by
  have hvb:∀ b,blk v=some b->b<w.heap.size:=fun b hb=> (Tar hown hb).2
  go_enter Tryz.func233,Tryz.ntmps233
  go_wp2_with (at_builtin; refine Tb0 rfl _ _ rfl B _ _ _ rfl (hown.alloc _) ⟨w.heap.size,0,none⟩ 3 3 [.int .u8 (224+r / 4096),.int .u8 (128+r / 64 % 64),.int .u8 (128+r % 64)] rfl rfl ?c1 ?c2 ?c4 ?c5 ?_)
  all_goals first
    | (intro v' w2 hown' hgrow; go_wp2; go_ret; exact⟨v',rfl,hown',Tb1 hvb hgrow⟩)
    | omega
    | exact⟨rfl,rfl,rfl⟩
    | (simp; omega)
    | (intro u hu; simp at hu; rcases hu with rfl | rfl | rfl<;> rfl)
    | (intro j u hj
       match j,hj with
       | 0,hj=>simp at hj; subst hj; simp[Addr.add]
       | 1,hj=>simp at hj; subst hj; simp[Addr.add]
       | 2,hj=>simp at hj; subst hj; simp[Addr.add]
       | (j+3),hj=>simp at hj)
set_option maxRecDepth 100000 in
theorem T1q (B:Nat)(v:Value)(n:Nat)(xs:List Value)(r:Int)(h0:65536<=r)(h1:r<=1114111)(w:World)(hown:w.ownsRow B 5 1 v n xs)(hlen:n+4<=140737488355328)(hBw:B<=w.heap.size) :
    Calls Tryz.prog 233 #[v,.int .i32 r] w fun e w'=>∃ v',e= .returned v'/\w'.ownsRow B 5 1 v' (n+4) (xs++ [.int .u8 (240+r / 262144),.int .u8 (128+r / 4096 % 64),.int .u8 (128+r / 64 % 64),.int .u8 (128+r % 64)])/\Grew w w' v v':=by
  have hvb:∀ b,blk v=some b->b<w.heap.size:=fun b hb=> (Tar hown hb).2
  go_enter Tryz.func233,Tryz.ntmps233
  go_wp2_with (at_builtin; refine Tb0 rfl _ _ rfl B _ _ _ rfl (hown.alloc _) ⟨w.heap.size,0,none⟩ 4 4 [.int .u8 (240+r / 262144),.int .u8 (128+r / 4096 % 64),.int .u8 (128+r / 64 % 64),.int .u8 (128+r % 64)] rfl rfl ?c1 ?c2 ?c4 ?c5 ?_)
  all_goals first
    | (intro v' w2 hown' hgrow; go_wp2; go_ret; exact⟨v',rfl,hown',Tb1 hvb hgrow⟩)
    | omega
    | exact⟨rfl,rfl,rfl⟩
    | (simp; omega)
    | (intro u hu; simp at hu; rcases hu with rfl | rfl | rfl | rfl<;> rfl)
    | (intro j u hj
       match j,hj with
       | 0,hj=>simp at hj; subst hj; simp[Addr.add]
       | 1,hj=>simp at hj; subst hj; simp[Addr.add]
       | 2,hj=>simp at hj; subst hj; simp[Addr.add]
       | 3,hj=>simp at hj; subst hj; simp[Addr.add]
       | (j+4),hj=>simp at hj)
set_option maxRecDepth 100000 in
theorem Tq3 (B:Nat)(v:Value)(n:Nat)(xs:List Value)(r:Int)(h0: -2147483648<=r)(h1:r<0)(w:World)(hown:w.ownsRow B 5 1 v n xs)(hlen:n+4<=140737488355328)(hBw:B<=w.heap.size) :
    Calls Tryz.prog 233 #[v,.int .i32 r] w fun e w'=>∃ v',e= .returned v'/\w'.ownsRow B 5 1 v' (n+3) (xs++ [.int .u8 (239),.int .u8 (191),.int .u8 (189)])/\Grew w w' v v':=by
  have hvb:∀ b,blk v=some b->b<w.heap.size:=fun b hb=> (Tar hown hb).2
  go_enter Tryz.func233,Tryz.ntmps233
  go_wp2_with (at_builtin; refine Tb0 rfl _ _ rfl B _ _ _ rfl (hown.alloc _) ⟨w.heap.size,0,none⟩ 3 3 [.int .u8 (239),.int .u8 (191),.int .u8 (189)] rfl rfl ?c1 ?c2 ?c4 ?c5 ?_)
  all_goals first
    | (intro v' w2 hown' hgrow; go_wp2; go_ret; exact⟨v',rfl,hown',Tb1 hvb hgrow⟩)
    | omega
    | exact⟨rfl,rfl,rfl⟩
    | (simp; omega)
    | (intro u hu; simp at hu; rcases hu with rfl | rfl | rfl<;> rfl)
    | (intro j u hj
       match j,hj with
       | 0,hj=>simp at hj; subst hj; simp[Addr.add]
       | 1,hj=>simp at hj; subst hj; simp[Addr.add]
       | 2,hj=>simp at hj; subst hj; simp[Addr.add]
       | (j+3),hj=>simp at hj)
set_option maxRecDepth 100000 in
theorem Tq4 (B:Nat)(v:Value)(n:Nat)(xs:List Value)(r:Int)(h0:55296<=r)(h1:r<=57343)(w:World)(hown:w.ownsRow B 5 1 v n xs)(hlen:n+4<=140737488355328)(hBw:B<=w.heap.size) :
    Calls Tryz.prog 233 #[v,.int .i32 r] w fun e w'=>∃ v',e= .returned v'/\w'.ownsRow B 5 1 v' (n+3) (xs++ [.int .u8 (239),.int .u8 (191),.int .u8 (189)])/\Grew w w' v v':=by
  have hvb:∀ b,blk v=some b->b<w.heap.size:=fun b hb=> (Tar hown hb).2
  go_enter Tryz.func233,Tryz.ntmps233
  go_wp2_with (at_builtin; refine Tb0 rfl _ _ rfl B _ _ _ rfl (hown.alloc _) ⟨w.heap.size,0,none⟩ 3 3 [.int .u8 (239),.int .u8 (191),.int .u8 (189)] rfl rfl ?c1 ?c2 ?c4 ?c5 ?_)
  all_goals first
    | (intro v' w2 hown' hgrow; go_wp2; go_ret; exact⟨v',rfl,hown',Tb1 hvb hgrow⟩)
    | omega
    | exact⟨rfl,rfl,rfl⟩
    | (simp; omega)
    | (intro u hu; simp at hu; rcases hu with rfl | rfl | rfl<;> rfl)
    | (intro j u hj
       match j,hj with
       | 0,hj=>simp at hj; subst hj; simp[Addr.add]
       | 1,hj=>simp at hj; subst hj; simp[Addr.add]
       | 2,hj=>simp at hj; subst hj; simp[Addr.add]
       | (j+3),hj=>simp at hj)
set_option maxRecDepth 100000 in
theorem Tq5 (B:Nat)(v:Value)(n:Nat)(xs:List Value)(r:Int)(h0:1114111<r)(h1:r<=2147483647)(w:World)(hown:w.ownsRow B 5 1 v n xs)(hlen:n+4<=140737488355328)(hBw:B<=w.heap.size) :
    Calls Tryz.prog 233 #[v,.int .i32 r] w fun e w'=>∃ v',e= .returned v'/\w'.ownsRow B 5 1 v' (n+3) (xs++ [.int .u8 (239),.int .u8 (191),.int .u8 (189)])/\Grew w w' v v':=by
  have hvb:∀ b,blk v=some b->b<w.heap.size:=fun b hb=> (Tar hown hb).2
  go_enter Tryz.func233,Tryz.ntmps233
  go_wp2_with (at_builtin; refine Tb0 rfl _ _ rfl B _ _ _ rfl (hown.alloc _) ⟨w.heap.size,0,none⟩ 3 3 [.int .u8 (239),.int .u8 (191),.int .u8 (189)] rfl rfl ?c1 ?c2 ?c4 ?c5 ?_)
  all_goals first
    | (intro v' w2 hown' hgrow; go_wp2; go_ret; exact⟨v',rfl,hown',Tb1 hvb hgrow⟩)
    | omega
    | exact⟨rfl,rfl,rfl⟩
    | (simp; omega)
    | (intro u hu; simp at hu; rcases hu with rfl | rfl | rfl<;> rfl)
    | (intro j u hj
       match j,hj with
       | 0,hj=>simp at hj; subst hj; simp[Addr.add]
       | 1,hj=>simp at hj; subst hj; simp[Addr.add]
       | 2,hj=>simp at hj; subst hj; simp[Addr.add]
       | (j+3),hj=>simp at hj)
set_option maxRecDepth 100000 in
theorem Tx1 (B:Nat)(v:Value)(n:Nat)(xs:List Value)(r:Int)(h0:0<=r)(h1:r<=127)(w:World)(hown:w.ownsRow B 5 1 v n xs)(hlen:n+4<=140737488355328)(hBw:B<=w.heap.size) :
    Calls Tryz.prog 225 #[v,.int .i32 r] w fun e w'=>∃ v',e= .returned v'/\w'.ownsRow B 5 1 v' (n+1) (xs++ [.int .u8 (r)])/\Grew w w' v v':=by
  have hvb:∀ b,blk v=some b->b<w.heap.size:=fun b hb=> (Tar hown hb).2
  go_enter Tryz.func225,Tryz.ntmps225
  go_wp2_with (at_builtin; refine Tb0 rfl _ _ rfl B _ _ _ rfl (hown.alloc _) ⟨w.heap.size,0,none⟩ 1 1 [.int .u8 (r)] rfl rfl ?c1 ?c2 ?c4 ?c5 ?_)
  all_goals first
    | (intro v' w2 hown' hgrow; go_wp2; go_ret; exact⟨v',rfl,hown',Tb1 hvb hgrow⟩)
    | omega
    | exact⟨rfl,rfl,rfl⟩
    | (simp; omega)
    | (intro u hu; simp at hu; subst hu; rfl)
    | (intro j u hj
       match j,hj with
       | 0,hj=>simp at hj; subst hj; simp[Addr.add]
       | (j+1),hj=>simp at hj)
theorem T1r (B:Nat)(v:Value)(n:Nat)(xs:List Value)(r:Int)(hr0: -2147483648<=r)(hr1:r<=2147483647)(hna:r<0∨128<=r)(w:World)(hown:w.ownsRow B 5 1 v n xs)(hlen:n+4<=140737488355328)(hBw:B<=w.heap.size) :
 Calls Tryz.prog 233 #[v,.int .i32 r] w fun e w'=>∃ v',e= .returned v'/\w'.ownsRow B 5 1 v' (n+ (Lib.runeCells r).length) (xs++Lib.runeCells r)/\Grew w w' v v':=by
 by_cases c0:r<0
 · rw[show Lib.runeCells r= [.int .u8 239,.int .u8 191,.int .u8 189]by simp[Lib.runeCells,Lib.encodeRuneZ_bad (Or.inl c0)]]
   exact Tq3 B v n xs r hr0 c0 w hown hlen hBw
 by_cases c1:r<=2047
 · rw[show Lib.runeCells r= [.int .u8 (192+r / 64),.int .u8 (128+r % 64)]by simp[Lib.runeCells,Lib.encodeRuneZ_two (by omega) c1]]
   exact T3t B v n xs r (by omega) c1 w hown hlen hBw
 by_cases c2:r<55296
 · rw[show Lib.runeCells r= [.int .u8 (224+r / 4096),.int .u8 (128+r / 64 % 64),.int .u8 (128+r % 64)]by simp[Lib.runeCells,Lib.encodeRuneZ_three (Or.inl ⟨by omega,c2⟩)]]
   exact Tnj B v n xs r (by omega) c2 w hown hlen hBw
 by_cases c3:r<=57343
 · rw[show Lib.runeCells r= [.int .u8 239,.int .u8 191,.int .u8 189]by simp[Lib.runeCells,Lib.encodeRuneZ_bad (Or.inr (Or.inl ⟨by omega,c3⟩))]]
   exact Tq4 B v n xs r (by omega) c3 w hown hlen hBw
 by_cases c4:r<=65535
 · rw[show Lib.runeCells r= [.int .u8 (224+r / 4096),.int .u8 (128+r / 64 % 64),.int .u8 (128+r % 64)]by simp[Lib.runeCells,Lib.encodeRuneZ_three (Or.inr ⟨by omega,c4⟩)]]
   exact Tnk B v n xs r (by omega) c4 w hown hlen hBw
 by_cases c5:r<=1114111
 · rw[show Lib.runeCells r= [.int .u8 (240+r / 262144),.int .u8 (128+r / 4096 % 64),.int .u8 (128+r / 64 % 64),.int .u8 (128+r % 64)]by simp[Lib.runeCells,Lib.encodeRuneZ_four (by omega) c5]]
   exact T1q B v n xs r (by omega) c5 w hown hlen hBw
 · rw[show Lib.runeCells r= [.int .u8 239,.int .u8 191,.int .u8 189]by simp[Lib.runeCells,Lib.encodeRuneZ_bad (r:=r) (Or.inr (Or.inr (by omega)))]]
   exact Tq5 B v n xs r (by omega) hr1 w hown hlen hBw
set_option maxRecDepth 100000 in
theorem T3u (B:Nat)(v:Value)(n:Nat)(xs:List Value)(r:Int)(hr0: -2147483648<=r)(hr1:r<=2147483647)(w:World)(hown:w.ownsRow B 5 1 v n xs)(hlen:n+4<=140737488355328)(hBw:B<=w.heap.size) :
 Calls Tryz.prog 225 #[v,.int .i32 r] w fun e w'=>∃ v',e= .returned v'/\w'.ownsRow B 5 1 v' (n+ (Lib.runeCells r).length) (xs++Lib.runeCells r)/\Grew w w' v v':=by
 by_cases c:0<=r/\r<=127
 · rw[show Lib.runeCells r= [.int .u8 r]by simp[Lib.runeCells,Lib.encodeRuneZ_one c.1 c.2]]
   exact Tx1 B v n xs r c.1 c.2 w hown hlen hBw
 · have hna:r<0∨128<=r:=by omega
   clear c
   rcases hna with hna | hna
   all_goals
    go_enter Tryz.func225,Tryz.ntmps225
    go_wp2_with (go_at_call 233; refine(T1r B v n xs r hr0 hr1 (by omega) _ hown hlen hBw).mono ?_)
    rintro e w1 ⟨v',rfl,h1,h2⟩
    go_wp2
    go_ret
    exact⟨_,rfl,h1,h2⟩
set_option maxRecDepth 100000 in
theorem sbRune:SbRune Tryz.prog 145 5 208:=by
 intro B b p v bs r w hr0 hr1 hB hBw hp hg hown hne hle
 have hlt:b<w.heap.size:= (Array.getElem?_eq_some_iff.1 hg).1
 have hk4:=Lib.runeCells_le r
 go_enter Tryz.func208,Tryz.ntmps208
 go_wp2_with (go_at_call 150; refine(Tpg B b p v _ hB hp hg).mono ?_)
 rintro e w1 ⟨rfl,hg1,hb1,hs1,hk1⟩
 have hown1:w1.ownsRow B 5 1 v bs.length bs:=Tav hown fun b' hb'=>hk1 b' fun e=>hne (by rw[← e]; exact hb')
 obtain⟨ao,cap,rfl⟩:∃ ao cap,v= .slice ao bs.length cap:=by
  rcases hown.2 with⟨hv,h0⟩ | ⟨g,cap,cur,hv,_⟩
  · exact⟨none,0,by rw[hv]; simp[h0]⟩
  · exact⟨_,_,hv⟩
 have c0:w1.cell? ⟨b,0,none⟩=some (.pointer (some ⟨b,0,none⟩)):=by rw[Lib.cell_of_heap hg1]; rfl
 have c1:w1.cell? ⟨b,1,none⟩=some (.slice ao bs.length cap):=by rw[Lib.cell_of_heap hg1]; rfl
 go_wp2_with (go_at_call 225; refine(T3u B _ bs.length bs r hr0 hr1 _ hown1 (by simpa[maxBytes]using hle) (by omega)).mono ?_)
 rintro e w2 ⟨v',rfl,hown',hgrow⟩
 have hkeep:∀ k,k<w1.heap.size->blk (.slice ao bs.length cap)≠some k->w2.heap[k]?=w1.heap[k]?:=fun k h1 h2=>by
  rcases hgrow with⟨_,_,_,_,_,h⟩ | ⟨_,h⟩
  · exact h k (by omega) h2
  · exact h.block k (by omega)
 have hb2:w2.heap[b]?=some (.cells #[.pointer (some ⟨b,0,none⟩),.slice ao bs.length cap] 145 (0,0)):=by
  rw[hkeep b (by omega) hne]; exact hg1
 have hbel:Below B w1 w2:=by
  rcases hgrow with⟨h0,h1,h2,h3,h4,h5⟩ | ⟨_,h⟩
  · refine⟨h1,h2,h3,by omega,fun k hk=>h5 k (by omega) fun e=> ?_⟩
    have:= (Tar hown1 e).1
    omega
  · exact h.mono (by omega)
 have d0:w2.cell? ⟨b,0,none⟩=some (.pointer (some ⟨b,0,none⟩)):=by rw[Lib.cell_of_heap hb2]; rfl
 have d1:w2.cell? ⟨b,1,none⟩=some (.slice ao bs.length cap):=by rw[Lib.cell_of_heap hb2]; rfl
 have f1:w2.frozen? ⟨b,1,none⟩=false:=Lib.frozen_of_heap hb2 1
 obtain⟨ao',cap',rfl⟩:∃ ao' cap',v'= .slice ao' (bs.length+ (Lib.runeCells r).length) cap':=by
  rcases hown'.2 with⟨_,h0⟩ | ⟨g,cap',cur,hv,_⟩
  · omega
  · exact⟨_,cap',hv⟩
 go_wp2
 go_ret2
 have hnb:blk (.slice ao' (bs.length+ (Lib.runeCells r).length) cap')≠some b:=fun e=>by
  rcases hgrow with⟨h,_⟩ | ⟨⟨c,h,hc⟩,_⟩
  · rw[h]at e; exact hne e
  · rw[h]at e; simp at e; omega
 refine⟨?_,.slice ao' (bs.length+ (Lib.runeCells r).length) cap',?_,?_,?_,?_,?_⟩
 · have e: ((bs.length:Int)+ ((Lib.runeCells r).length:Int)- (bs.length:Int))= ((Lib.runeCells r).length:Int):=by omega
   simp[e]
 · simp[World.setCell,Array.getElem?_modify,hb2]
 · exact Tav hown' fun k hk=>Below.heap_setCell _ _ _ _ fun e=>hnb (by rw[hk]; rw[e])
 · rcases hgrow with⟨h,_⟩ | ⟨⟨c,h,hc⟩,_⟩
   · exact .inl h
   · exact .inr ⟨_,h,by omega⟩
 · exact(hb1.trans hbel).setCell (p:= ⟨b,1,none⟩) hB _
 · intro k h1 h2 h3
   rw[Below.heap_setCell _ _ _ _ h2,hkeep k (by omega) h3,hk1 k h2]
theorem Tf4 {ops:Array Oper}{rest:List Oper}{o:Oper}{a:Act}{Q:Exit->Act->World->Prop}{w:World}{P:Program}{t e:TypeId}{k by_:Nat}(ht:P.underlying t=some (.slice e))(hel:elOk P e k by_=true)(hgd:o.guard=none)(sl x:Operand)(ho:o.op= .call {callee:= .builtin .append,args:= #[sl,x],argTypes:= #[t,t]})
 (B:Nat) (v:Value) (n:Nat) (xs:List Value) (hs:a.eval sl=v) (hown:w.ownsRow B e k v n xs) (ad:Option Addr) (m c:Nat) (news:List Value) (hx:a.eval x= .slice ad m c) (hl:news.length=m*k) (hnews:m=0∨∃ a',ad=some a'/\∀ j u,news[j]?=some u->w.cell? (a'.add j)=some u) (h1:∀ u∈news,u.oneCell'=true)
 (hby: (n+m)*by_<=140737488355328) (h63:n+m<=9223372036854775807) (hB:B<=w.heap.size)
 (h:∀ v' w',w'.ownsRow B e k v' (n+m) (xs++news)->GrewAt w w' v v'->wpList P ops Q rest (a.put o.dst v') w'):wpList P ops Q (o::rest) a w:=by
 refine wpList_plain hgd fun K hK=> ?_
 obtain⟨i,z,hi,hz,hi1,hby1,hzs⟩:=Tbp hel
 obtain⟨v',w',hr,h2,h3⟩:=Tg8 (P:=P) (ty:=o.type) (x:= .slice ad m c) (m:=m) (n:=n) (news:=news) ht ht (by simp) hi hz (by rw[hzs,hi1]) (by rw[hi1]; exact hown) (by rw[hi1]; exact hl) h1 (fun w'=>rfl) (fun w' hw'=>by
  rw[hi1]
  rcases hnews with rfl | ⟨a',rfl,hn⟩
  · have hn0:news= []:=List.eq_nil_of_length_eq_zero (by rw[hl]; simp)
    subst hn0
    cases ad with
    | none=>exact run_firstCells_none _ _ _ _ _
    | some a'=>exact run_firstCells_some (w:=w') (size:=k) (n:=0) (b:=a') (len:=0) (cap:=c) (cs:= []) (by simp) (fun j u hu=>by simp at hu)
  · exact run_firstCells_some (w:=w') (size:=k) (n:=m) (b:=a') (len:=m) (cap:=c) (cs:=news) hl (fun j u hu=> (World.cell?_of_block (a:=a'.add j) (by rw[hw'])).trans (hn j u hu))) (by simp only[maxLen]; omega) (by rw[hby1]; exact hby) hB
 rw[hi1]at h2
 unfold Oper.wp execOp
 simp only[ho,resolve,invoke,builtin,Sem.run_bind,Sem.run_pure,Result.andThen_ok,List.map_toArray,List.map_cons,List.map_nil,hs,hx,hr]
 exact hK _ _ (h v' w' h2 h3)
theorem Tf5 {w w':World}{v v':Value}{B:Nat}(h:GrewAt w w' v v')(hB:B<=w.heap.size)(hv:∀ b,blk v=some b->B<=b):Below B w w':=by
 rcases h with⟨h0,h1,h2,h3,h4,h5⟩ | ⟨_,h⟩
 · exact⟨h1,h2,h3,by omega,fun k hk=>h5 k fun e=>by have:=hv k e; omega⟩
 · exact h.mono hB
theorem Tx2:elOk Tryz.prog 64 2 16=true:=by decide +kernel
set_option maxRecDepth 100000 in
theorem Tx3 (l:List (List PV))(hl:∀ c∈l,c.length=2)(hb:l.length*16<=140737488355328):CallOK' Tryz.prog 106 [.sl 2 l] (.own 64 2 l):=by
 intro w0 lm0 vs hvs
 cases hvs with
 | cons hv hn =>
 cases hn
 rename_i v
 have done:∀(w':World) (v':Value) (xs:List Value),Below w0.heap.size w0 w'->w'.ownsRow w0.heap.size 64 2 v' l.length xs->RepL w0 lm0 l.flatten xs-> (∀ u∈xs,u.oneCell'=true) ->
  ∃ u lm',Ending.returned v'= .returned u/\Below w0.heap.size w0 w'/\ (∀ b,b<w0.heap.size->lm' b=lm0 b)/\RRep w0.heap.size w' lm' (.own 64 2 l) u:=by
  intro w' v' xs h1 h2 h3 h4
  let lm':Nat->Nat:=fun b=>if b<w0.heap.size then lm0 b else 0
  refine⟨v',lm',rfl,h1,fun b hb=>if_pos hb,by omega,hl,⟨xs,h2,h3.ext (Ext.of_below h1 fun b hb=>if_pos hb),h4⟩,fun b hb=>if_neg ?_⟩
  have:= (Tar h2 hb).1
  omega
 obtain⟨ad,n,cap,xs,rfl,hn,hxs,h1,hmem⟩:∃ ad n cap xs,v= .slice ad n cap/\n=l.length/\RepL w0 lm0 l.flatten xs/\ (∀ u∈xs,u.oneCell'=true)/\ (n=0∨∃ a',ad=some a'/\∀ j u,xs[j]?=some u->w0.cell? (a'.add j)=some u):=by
  cases hv with
  | sl h0 hk hr hm hc =>
   rename_i xs b o cap
   exact⟨_,_,_,xs,rfl,rfl,hr,fun u hu=>by obtain⟨j,hj⟩:=List.mem_iff_getElem?.1 hu; exact(hm j u hj).2.2,.inr ⟨_,rfl,fun j u hu=>by rw[add_n]; exact(hm j u hu).1⟩⟩
  | sl0=>exact⟨_,_,_,[],rfl,rfl,.nil,by simp,.inl rfl⟩
 subst hn
 have hxl:xs.length=l.length*2:=by rw[← hxs.length,Tap hl]
 cases ad with
 | none =>
  have hl0:l= []:=by
   rcases hmem with h | ⟨_,h,_⟩
   · exact List.eq_nil_of_length_eq_zero h
   · simp at h
  subst hl0
  have hx0:xs= []:=List.eq_nil_of_length_eq_zero (by simpa using hxl)
  subst hx0
  go_enter Tryz.func106,Tryz.ntmps106
  go_wp2
  rw[Lib.run_eql_slice_nil w0 _ _ _ _ _ _ _ Tryz.underlying60]
  simp only[Result.andThen]
  rw[Oper.upon_value]
  go_wp2
  go_ret
  exact done _ _ [] (Below.refl _ _) ⟨rfl,.inl ⟨rfl,rfl⟩⟩ .nil (by simp)
 | some a' =>
  go_enter Tryz.func106,Tryz.ntmps106
  go_wp2
  rw[Lib.run_eql_slice_nil w0 _ _ _ _ _ _ _ Tryz.underlying60]
  simp only[Result.andThen]
  rw[Oper.upon_value]
  go_wp2_with (at_builtin; refine Tf4 Tryz.underlying60 Tx2 rfl _ _ rfl w0.heap.size _ 0 [] rfl ?own _ l.length cap xs rfl hxl ?mem h1 ?c1 ?c2 ?c3 ?_)
  case own=>exact World.ownsRow_lit w0 #[] 0 (Nat.le_refl _) (by decide) rfl
  case mem =>
   rcases hmem with h | ⟨a1,h,hm⟩
   · exact .inl h
   · refine .inr ⟨a1,h,fun j u hu=> ?_⟩
     have h2:=hm j u hu
     have h3: (a1.add j).block<w0.heap.size:=by
      rcases Nat.lt_or_ge (a1.add j).block w0.heap.size with h' | h'
      · exact h'
      · simp[World.cell?,Array.getElem?_eq_none h']at h2
     exact(World.cell?_of_block (Lib.alloc_old w0 _ _ h3)).trans h2
  case c1=>omega
  case c2=>omega
  case c3=>simp
  intro v' w2 hown' hgrow
  have hsz: (w0.alloc (.cells #[] 64)).heap.size=w0.heap.size+1:=by simp
  go_wp2
  go_ret
  refine done _ _ xs ?_ (by simpa using hown') hxs h1
  exact(Ta2 w0 _).trans (Tf5 hgrow (by rw[hsz]; omega) fun b hb=>by simp[blk,Act.eval]at hb; omega)
theorem Tuj:elOk Tryz.prog 41 2 16=true:=by decide +kernel
set_option maxRecDepth 100000 in
theorem Tuk (l:List (List PV))(hl:∀ c∈l,c.length=2)(hb:l.length*16<=140737488355328):CallOK' Tryz.prog 180 [.sl 2 l] (.own 41 2 l):=by
 intro w0 lm0 vs hvs
 cases hvs with
 | cons hv hn =>
 cases hn
 rename_i v
 have done:∀(w':World) (v':Value) (xs:List Value),Below w0.heap.size w0 w'->w'.ownsRow w0.heap.size 41 2 v' l.length xs->RepL w0 lm0 l.flatten xs-> (∀ u∈xs,u.oneCell'=true) ->
  ∃ u lm',Ending.returned v'= .returned u/\Below w0.heap.size w0 w'/\ (∀ b,b<w0.heap.size->lm' b=lm0 b)/\RRep w0.heap.size w' lm' (.own 41 2 l) u:=by
  intro w' v' xs h1 h2 h3 h4
  let lm':Nat->Nat:=fun b=>if b<w0.heap.size then lm0 b else 0
  refine⟨v',lm',rfl,h1,fun b hb=>if_pos hb,by omega,hl,⟨xs,h2,h3.ext (Ext.of_below h1 fun b hb=>if_pos hb),h4⟩,fun b hb=>if_neg ?_⟩
  have:= (Tar h2 hb).1
  omega
 obtain⟨ad,n,cap,xs,rfl,hn,hxs,h1,hmem⟩:∃ ad n cap xs,v= .slice ad n cap/\n=l.length/\RepL w0 lm0 l.flatten xs/\ (∀ u∈xs,u.oneCell'=true)/\ (n=0∨∃ a',ad=some a'/\∀ j u,xs[j]?=some u->w0.cell? (a'.add j)=some u):=by
  cases hv with
  | sl h0 hk hr hm hc =>
   rename_i xs b o cap
   exact⟨_,_,_,xs,rfl,rfl,hr,fun u hu=>by obtain⟨j,hj⟩:=List.mem_iff_getElem?.1 hu; exact(hm j u hj).2.2,.inr ⟨_,rfl,fun j u hu=>by rw[add_n]; exact(hm j u hu).1⟩⟩
  | sl0=>exact⟨_,_,_,[],rfl,rfl,.nil,by simp,.inl rfl⟩
 subst hn
 have hxl:xs.length=l.length*2:=by rw[← hxs.length,Tap hl]
 cases ad with
 | none =>
  have hl0:l= []:=by
   rcases hmem with h | ⟨_,h,_⟩
   · exact List.eq_nil_of_length_eq_zero h
   · simp at h
  subst hl0
  have hx0:xs= []:=List.eq_nil_of_length_eq_zero (by simpa using hxl)
  subst hx0
  go_enter Tryz.func180,Tryz.ntmps180
  go_wp2
  rw[Lib.run_eql_slice_nil w0 _ _ _ _ _ _ _ Tryz.underlying31]
  simp only[Result.andThen]
  rw[Oper.upon_value]
  go_wp2
  go_ret
  exact done _ _ [] (Below.refl _ _) ⟨rfl,.inl ⟨rfl,rfl⟩⟩ .nil (by simp)
 | some a' =>
  go_enter Tryz.func180,Tryz.ntmps180
  go_wp2
  rw[Lib.run_eql_slice_nil w0 _ _ _ _ _ _ _ Tryz.underlying31]
  simp only[Result.andThen]
  rw[Oper.upon_value]
  go_wp2_with (at_builtin; refine Tf4 Tryz.underlying31 Tuj rfl _ _ rfl w0.heap.size _ 0 [] rfl ?own _ l.length cap xs rfl hxl ?mem h1 ?c1 ?c2 ?c3 ?_)
  case own=>exact World.ownsRow_lit w0 #[] 0 (Nat.le_refl _) (by decide) rfl
  case mem =>
   rcases hmem with h | ⟨a1,h,hm⟩
   · exact .inl h
   · refine .inr ⟨a1,h,fun j u hu=> ?_⟩
     have h2:=hm j u hu
     have h3: (a1.add j).block<w0.heap.size:=by
      rcases Nat.lt_or_ge (a1.add j).block w0.heap.size with h' | h'
      · exact h'
      · simp[World.cell?,Array.getElem?_eq_none h']at h2
     exact(World.cell?_of_block (Lib.alloc_old w0 _ _ h3)).trans h2
  case c1=>omega
  case c2=>omega
  case c3=>simp
  intro v' w2 hown' hgrow
  have hsz: (w0.alloc (.cells #[] 41)).heap.size=w0.heap.size+1:=by simp
  go_wp2
  go_ret
  refine done _ _ xs ?_ (by simpa using hown') hxs h1
  exact(Ta2 w0 _).trans (Tf5 hgrow (by rw[hsz]; omega) fun b hb=>by simp[blk,Act.eval]at hb; omega)
set_option maxRecDepth 100000 in
theorem Tx4:CallOK' Tryz.prog 220 [] (.val (.st [pI .u8 128,pI .u8 0,pI .i32 0,pI .u8 224,pI .u8 192,pI .i32 128,pI .u8 240,pI .u8 224,pI .i32 2048,pI .u8 248,pI .u8 240,pI .i32 65536])):=by
 intro w0 lm0 vs hvs
 cases hvs
 have main:Calls Tryz.prog 220 #[] w0 fun e w'=>e= .returned (.agg #[.int .u8 128,.int .u8 0,.int .i32 0,.int .u8 224,.int .u8 192,.int .i32 128,.int .u8 240,.int .u8 224,.int .i32 2048,.int .u8 248,.int .u8 240,.int .i32 65536])/\Below w0.heap.size w0 w':=by
  go_enter Tryz.func220,Tryz.ntmps220
  go_wp2
  exact bodyPost_ret (v:= .agg #[.int .u8 128,.int .u8 0,.int .i32 0,.int .u8 224,.int .u8 192,.int .i32 128,.int .u8 240,.int .u8 224,.int .i32 2048,.int .u8 248,.int .u8 240,.int .i32 65536]) (by simp[results,Tryz.results220,go_sem]) rfl ⟨rfl,(Below.refl _ _).alloc (Nat.le_refl _) _⟩
 refine main.mono ?_
 rintro e w' ⟨rfl,hb⟩
 let lm':Nat->Nat:=fun b=>if b<w0.heap.size then lm0 b else 0
 refine⟨_,lm',rfl,hb,fun b hb=>if_pos hb,?_⟩
 refine Rep.st (vs:= [.int .u8 128,.int .u8 0,.int .i32 0,.int .u8 224,.int .u8 192,.int .i32 128,.int .u8 240,.int .u8 224,.int .i32 2048,.int .u8 248,.int .u8 240,.int .i32 65536]) ?_ (by simp[Value.oneCell'])
 repeat' first | exact .nil | refine .cons (.sc _) ?_
set_option maxRecDepth 100000 in
theorem Tx5:CallOK' Tryz.prog 43 [] (.val (.st [pb false,pb true,pb true,pb false,pb false,pb true,pb true,pb false,pb false])):=by
 intro w0 lm0 vs hvs
 cases hvs
 have main:Calls Tryz.prog 43 #[] w0 fun e w'=>e= .returned (.agg #[.bool false,.bool true,.bool true,.bool false,.bool false,.bool true,.bool true,.bool false,.bool false])/\Below w0.heap.size w0 w':=by
  go_enter Tryz.func43,Tryz.ntmps43
  go_wp2
  exact bodyPost_ret (v:= .agg #[.bool false,.bool true,.bool true,.bool false,.bool false,.bool true,.bool true,.bool false,.bool false]) (by simp[results,Tryz.results43,go_sem]) rfl ⟨rfl,(Below.refl _ _).alloc (Nat.le_refl _) _⟩
 refine main.mono ?_
 rintro e w' ⟨rfl,hb⟩
 let lm':Nat->Nat:=fun b=>if b<w0.heap.size then lm0 b else 0
 refine⟨_,lm',rfl,hb,fun b hb=>if_pos hb,?_⟩
 refine Rep.st (vs:= [.bool false,.bool true,.bool true,.bool false,.bool false,.bool true,.bool true,.bool false,.bool false]) ?_ (by simp[Value.oneCell'])
 repeat' first | exact .nil | refine .cons (.sc _) ?_
structure As (p:Prop):Prop where
 out:p
theorem Tul {w:World}{lm:Nat->Nat}{k:Nat}{al:List (List PV)}{v:Value}(hv:Rep w lm (.sl k al) v):∃ ad cap xs,v= .slice ad al.length cap/\RepL w lm al.flatten xs/\ (∀ u∈xs,u.oneCell'=true)/\ (al.length=0∨∃ b o,ad=some ⟨b,o,none⟩/\∀ j u,xs[j]?=some u->w.cell? ⟨b,o+j,none⟩=some u):=by
 cases hv with
 | sl h0 hk hr hm hc =>
  rename_i xs b o cap
  exact⟨_,_,xs,rfl,hr,fun u hu=>by obtain⟨j,hj⟩:=List.mem_iff_getElem?.1 hu; exact(hm j u hj).2.2,.inr ⟨_,_,rfl,fun j u hu=> (hm j u hu).1⟩⟩
 | sl0=>exact⟨_,_,[],rfl,.nil,by simp,.inl rfl⟩
theorem Tl3:∀ {l:List (List PV)} {r:List ByteArray},strsOf l=some r->l=r.map fun s=> [.sc (.string s)]
 | [],r,h=>by obtain rfl:=oIj h; rfl
 | c::l,r,h=>by
  unfold strsOf at h
  split at h
  · simp at *
  · rename_i s l' heq
    split at h
    · rename_i r' h1
      obtain rfl:=oIj h
      injection heq with e1 e2
      subst e1; subst e2
      rw[Tl3 h1]; rfl
    · simp at h
  · simp at h
theorem Tph {g:PV->Option (List ByteArray)}:∀ {l:List (List PV)} {r:List ByteArray},kidsF g l=some r->∃ q:List (PV×List ByteArray),l= (q.map fun p=> [p.1])/\ (∀ p∈q,g p.1=some p.2)/\r= (q.map fun p=>p.2).flatten
 | [],r,h=>by obtain rfl:=oIj h; exact⟨[],rfl,by simp,rfl⟩
 | c::l,r,h=>by
  unfold kidsF at h
  split at h
  · simp at *
  · rename_i x l' heq
    split at h
    · rename_i a b h1 h2
      obtain rfl:=oIj h
      injection heq with e1 e2
      subst e1; subst e2
      obtain⟨q,q1,q2,q3⟩:=Tph h2
      refine⟨(x,a)::q,by rw[q1]; rfl,fun p hp=> ?_,by rw[q3]; rfl⟩
      rcases List.mem_cons.1 hp with rfl | hp
      · exact h1
      · exact q2 p hp
    · simp at h
  · simp at h
theorem Tl4 {w:World}{lm:Nat->Nat}:∀ {l:List ByteArray} {xs:List Value},RepL w lm (l.map fun s=> [PV.sc (.string s)]).flatten xs->xs=l.map Value.string
 | [],xs,h=>by cases h; rfl
 | s::l,xs,h=>by
  rw[List.map_cons,List.flatten_cons]at h
  cases h with
  | cons a b =>
   cases a
   rw[Tl4 (l:=l) b]; rfl
theorem Tx6 (q:List (PV×List ByteArray)): (List.map (fun p:PV×List ByteArray=> [p.fst]) q).flatten=q.map fun p=>p.1:=by
 induction q with
 | nil=>rfl
 | cons p q ih=>rw[List.map_cons,List.flatten_cons,ih]; rfl
theorem Tum:elOk Tryz.prog 153 1 16=true:=by decide +kernel
set_option maxRecDepth 100000 in
theorem Tx7:∀(k:Nat) (x:PV) (l:List ByteArray),nodeF k x=some l->∀(w0:World) (lm0:Nat->Nat) (w:World) (xv vo:Value) (n:Nat) (xs:List Value),Rep w0 lm0 x xv->Below w0.heap.size w0 w->w.ownsRow w0.heap.size 153 1 vo n xs-> (n+l.length)*16<=140737488355328 ->
 Calls Tryz.prog 149 #[xv,vo] w fun e w'=>∃ v',e= .returned v'/\Below w0.heap.size w0 w'/\w'.ownsRow w0.heap.size 153 1 v' (n+l.length) (xs++l.map Value.string):=by
 intro k
 induction k with
 | zero=>intro x l h; simp[nodeF]at h
 | succ k ih =>
  intro x l hx w0 lm0 w xv vo n xs hr hB hown hn
  unfold nodeF at hx
  split at hx
  case h_1=>simp at *
  case h_3=>simp at hx
  rename_i k2 ks it rest hkk
  obtain rfl:k=k2:=Nat.succ.inj hkk
  split at hx
  case isFalse=>simp at hx
  rename_i hkn
  split at hx
  case h_2=>simp at hx
  rename_i li lk h1 h2
  obtain rfl:=oIj hx
  have e1:=Tl3 h1
  obtain⟨q,q1,q2,q3⟩:=Tph h2
  clear h1 h2 hkk hx
  cases hr with
  | pt hl hm =>
  rename_i vs b o
  cases hl with
  | cons r0 hl=>cases hl with
  | cons r1 hl =>
  rename_i v0 v1 vs1
  have c0:= (hm 0 v0 rfl).1
  have c1:= (hm 1 v1 rfl).1
  obtain⟨ad0,cap0,ys0,rfl,hy0,ho0,hm0⟩:=Tul r0
  obtain⟨ad1,cap1,ys1,rfl,hy1,ho1,hm1⟩:=Tul r1
  have old:∀(w':World),Below w0.heap.size w0 w'->∀(p:Addr) (u:Value),w0.cell? p=some u->w'.cell? p=some u:=fun w' hw p u hu=>by
   have h3:p.block<w0.heap.size:=by
    rcases Nat.lt_or_ge p.block w0.heap.size with h' | h'
    · exact h'
    · simp[World.cell?,Array.getElem?_eq_none h']at hu
   exact(World.cell?_of_block (hw.block p.block h3)).trans hu
  subst e1
  subst q1
  obtain rfl:=Tl4 hy1
  simp only[List.length_map,Nat.add_zero]at c0 c1 hm0 hm1 hkn
  clear hl r0 r1 hm
  have x0:=old w hB _ _ c0
  have x1:=old w hB _ _ c1
  have hnn:n+li.length+lk.length=n+ (li++lk).length:=by rw[List.length_append]; omega
  go_enter Tryz.func149,Tryz.ntmps149
  go_wp2_with (at_builtin; refine Tf4 Tryz.underlying146 Tum rfl _ _ rfl w0.heap.size _ n xs rfl hown ad1 li.length cap1 (li.map Value.string) rfl ?hl ?mem ho1 ?c1 ?c2 ?c3 ?_)
  case hl=>simp
  case mem =>
   rcases hm1 with h | ⟨b1,o1,h,hm1⟩
   · exact .inl h
   · refine .inr ⟨_,h,fun j u hu=> ?_⟩
     rw[add_n]
     exact old w hB _ _ (hm1 j u hu)
  case c1=>omega
  case c2=>omega
  case c3=>exact hB.size
  intro v2 w2 hown2 hgrow2
  have hB2:Below w0.heap.size w0 w2:=hB.trans (Tf5 hgrow2 hB.size fun b hb=> (Tar hown hb).1)
  clear hgrow2 x0 x1
  have x0:=old w2 hB2 _ _ c0
  clear hown hB
  go_wp2
  go_loopw [1,18] (fun vo vi wr=>∃ i:Nat,vi= .int .i64 i/\As (i<=q.length)/\As (Below w0.heap.size w0 wr/\wr.ownsRow w0.heap.size 153 1 vo (n+li.length+ ((q.take i).map fun p=>p.2).flatten.length) (xs++li.map Value.string++ ((q.take i).map fun p=>p.2).flatten.map Value.string))) (fun _ vi _=>q.length- (intOf vi).toNat)
  case atStart =>
   refine⟨0,rfl,⟨by omega⟩,⟨hB2,?_⟩⟩
   simpa using hown2
  case round =>
   obtain⟨i,rfl,hi,hI⟩:=hrel
   by_cases hlt:i<q.length
   · obtain⟨b0,o0,rfl,hcl⟩:∃ b0 o0,ad0=some ⟨b0,o0,none⟩/\∀(j:Nat) (u:Value),ys0[j]?=some u->w0.cell? ⟨b0,o0+j,none⟩=some u:=by
      rcases hm0 with h | h
      · omega
      · exact h
     have hfl: (List.map (fun p:PV×List ByteArray=> [p.fst]) q).flatten[i]?=some q[i].1:=by
      rw[Tx6,List.getElem?_map,List.getElem?_eq_getElem hlt]; rfl
     obtain⟨kv,hkv,hkr⟩:=hy0.get i _ hfl
     have g0:=old wr hI.out.1 _ _ (hcl i kv hkv)
     have hk:=q2 q[i] (List.getElem_mem hlt)
     have htk: ((q.take (i+1)).map fun p=>p.2).flatten= ((q.take i).map fun p=>p.2).flatten++q[i].2:=by
      rw[List.take_succ_eq_append_getElem hlt,List.map_append,List.flatten_append]; simp
     have hle: ((q.take i).map fun p=>p.2).flatten.length+q[i].2.length<=lk.length:=by
      have e:lk= ((q.take (i+1)).map fun p=>p.2).flatten++ ((q.drop (i+1)).map fun p=>p.2).flatten:=by
       rw[q3,← List.flatten_append,← List.map_append,List.take_append_drop]
      rw[e,htk]; simp only[List.length_append]; omega
     have hcallee:=ih q[i].1 q[i].2 hk w0 lm0 wr kv u1 _ _ hkr hI.out.1 hI.out.2 (by omega)
     go_wp2_with (go_at_call 149; refine hcallee.mono ?_; rintro e w3 ⟨v3,rfl,hB3,hown3⟩)
     go_roundw
     case rel =>
      refine⟨i+1,by go_num,⟨by omega⟩,⟨hB3,?_⟩⟩
      rw[htk,List.length_append,List.map_append,← List.append_assoc,← Nat.add_assoc]
      exact hown3
     case measure=>simp[intOf]; omega
   · have hil2:i=q.length:=by have:=hi.out; omega
     subst hil2
     have hI2:=hI.out
     rw[List.take_length,← q3]at hI2
     clear hI
     replace hI2:=As.mk hI2
     go_wp2
     go_ret
     refine⟨_,rfl,hI2.out.1,?_⟩
     rw[← hnn,List.map_append,← List.append_assoc]
     exact hI2.out.2
theorem Tl5 (w:World)(B e k cap:Nat)(cs:Array Value)(hB:B<=w.heap.size)(hc:cap<=maxLen)(hs:cs.size=cap*k): (w.alloc (.cells cs e)).ownsRow B e k (.slice (some ⟨w.heap.size,0,none⟩) 0 cap) 0 []:=by
 refine⟨by simp,.inr ⟨w.heap.size,cap,cs,rfl,hB,?_,Nat.zero_le _,hc,hs,by simp⟩⟩
 show(w.heap.push _)[w.heap.size]?=_
 simp
theorem Tpi {w0 w':World}{lm0:Nat->Nat}{v':Value}{l:List ByteArray}(h1:Below w0.heap.size w0 w')(h2:w'.ownsRow w0.heap.size 153 1 v' l.length (l.map Value.string)) :
 ∃ u lm',Ending.returned v'= .returned u/\Below w0.heap.size w0 w'/\ (∀ b,b<w0.heap.size->lm' b=lm0 b)/\RRep w0.heap.size w' lm' (.own 153 1 (strs l)) u:=by
 refine⟨v',fun b=>if b<w0.heap.size then lm0 b else 0,rfl,h1,fun b hb=>if_pos hb,by omega,?_,⟨l.map Value.string,by rw[Tgt]; exact h2,?_,?_⟩,fun b hb=>if_neg ?_⟩
 · intro c hc
   obtain⟨s,_,rfl⟩:=List.mem_map.1 hc; rfl
 · clear h2
   induction l with
   | nil=>exact .nil
   | cons s l ih=>exact .cons (.sc _) ih
 · intro x hx
   obtain⟨s,_,rfl⟩:=List.mem_map.1 hx; rfl
 · have:= (Tar h2 hb).1
   omega
theorem Tji (w:World)(n:Nat)(hn:n*16<=140737488355328):∃ cs:Array Value,cs.size=n*1/\ (Instr.makeSlice 146 (.int .i64 0) (.int .i64 n)).run Tryz.prog w= .ok (.slice (some ⟨w.heap.size,0,none⟩) 0 n) (w.alloc (.cells cs 153)):=by
 obtain⟨i,z,hi,hz,hi1,hby1,hzs⟩:=Tbp Tum
 have h:=run_make (P:=Tryz.prog) w 146 153 i z Tryz.underlying146 hi hz .i64 .i64 0 n (by omega) (by omega) (by rw[hby1]; omega) (by omega)
 simp only[Int.toNat_natCast]at h
 exact⟨_,by rw[size_madeCells,hi1],h⟩
set_option maxRecDepth 100000 in
theorem T1s (x:PV)(l:List ByteArray)(h:allF x=some l):CallOK' Tryz.prog 84 [.st [x]] (.own 153 1 (strs l)):=by
 intro w0 lm0 vs hvs
 cases hvs with
 | cons hv hn =>
 cases hn
 rename_i v
 cases hv with
 | st hl ho =>
 cases hl with
 | cons hx hn =>
 cases hn
 rename_i xv
 unfold allF at h
 split at h
 case h_3=>simp at h
 · obtain rfl:=oIj h
   cases hx
   go_enter Tryz.func84,Tryz.ntmps84
   go_wp2
   obtain⟨cs,hcs,hmk⟩:=Tji ((w0.alloc (.cells #[.pointer none] 149)).alloc (.cells #[.pointer none] 149)) 0 (by omega)
   rw[show((0:Nat):Int)=0 from rfl]at hmk
   rw[hmk]
   simp only[Result.andThen]
   rw[Oper.upon_value]
   go_wp2
   go_ret
   have q1:= (Below.refl w0.heap.size w0).alloc (Nat.le_refl _) (.cells #[.pointer none] 149)
   have q2:=q1.alloc q1.size (.cells #[.pointer none] 149)
   have ho:=Tl5 _ w0.heap.size 153 1 0 cs q2.size (by simp[maxLen]) hcs
   rw[show((w0.alloc (.cells #[.pointer none] 149)).alloc (.cells #[.pointer none] 149)).heap.size=w0.heap.size+1+1 from by simp]at ho
   exact Tpi (l:= []) (q2.alloc q2.size _) ho
 · rename_i kk ii n d r
   split at h
   case h_2=>simp at h
   rename_i l' hnf
   split at h
   case isFalse=>simp at h
   rename_i hb
   obtain rfl:=oIj h
   obtain⟨rfl,hb⟩:=hb
   have hx':=hx
   cases hx with
   | pt hl hm =>
   rename_i vs b o
   cases hl with
   | cons r0 hl=>cases hl with
   | cons r1 hl=>cases hl with
   | cons r2 hl =>
   rename_i v0 v1 v2 vs2
   cases r2
   have c2:= (hm 2 _ rfl).1
   have hlt:b<w0.heap.size:=by
    rcases Nat.lt_or_ge b w0.heap.size with h' | h'
    · exact h'
    · simp[World.cell?,Array.getElem?_eq_none h']at c2
   obtain⟨A,hA⟩:∃ A:Obj,A= .cells #[.pointer (some ⟨b,o,none⟩)] 149:= ⟨_,rfl⟩
   have q1:= (Below.refl w0.heap.size w0).alloc (Nat.le_refl _) A
   have q2:=q1.alloc q1.size A
   have x2: ((w0.alloc A).alloc A).cell? ⟨b,o+2,none⟩=some (.int .i64 l'.length):= (World.cell?_of_block (a:= ⟨b,o+2,none⟩) (q2.block b hlt)).trans c2
   rw[hA]at x2 q2
   clear hl hm c2 q1
   go_enter Tryz.func84,Tryz.ntmps84
   go_wp2
   obtain⟨cs,hcs,hmk⟩:=Tji ((w0.alloc (.cells #[.pointer (some ⟨b,o,none⟩)] 149)).alloc (.cells #[.pointer (some ⟨b,o,none⟩)] 149)) l'.length hb
   rw[hmk]
   simp only[Result.andThen]
   rw[Oper.upon_value]
   have q3:=q2.alloc q2.size (.cells cs 153)
   have ho:=Tl5 _ w0.heap.size 153 1 l'.length cs q2.size (by simp only[maxLen]; omega) hcs
   rw[show((w0.alloc (.cells #[.pointer (some ⟨b,o,none⟩)] 149)).alloc (.cells #[.pointer (some ⟨b,o,none⟩)] 149)).heap.size=w0.heap.size+1+1 from by simp]at ho ⊢
   have hcallee:=Tx7 d.toNat _ l' hnf w0 lm0 _ _ _ 0 [] hx' q3 ho (by omega)
   clear ho q3 x2 hmk hnf hx' q2
   have xq: ((((w0.alloc (.cells #[.pointer (some ⟨b,o,none⟩)] 149)).alloc (.cells #[.pointer (some ⟨b,o,none⟩)] 149)).alloc (.cells cs 153))).cell? ⟨w0.heap.size,0,none⟩=some (.pointer (some ⟨b,o,none⟩)):=by
    have e1:=Lib.alloc_old ((w0.alloc (.cells #[.pointer (some ⟨b,o,none⟩)] 149)).alloc (.cells #[.pointer (some ⟨b,o,none⟩)] 149)) (.cells cs 153) w0.heap.size (by simp; omega)
    have e2:=Lib.alloc_old (w0.alloc (.cells #[.pointer (some ⟨b,o,none⟩)] 149)) (.cells #[.pointer (some ⟨b,o,none⟩)] 149) w0.heap.size (by simp)
    have e3: (w0.alloc (.cells #[.pointer (some ⟨b,o,none⟩)] 149)).heap[w0.heap.size]?=some (.cells #[.pointer (some ⟨b,o,none⟩)] 149 (0,0)):=by
     show(w0.heap.push _)[w0.heap.size]?=_
     simp
    have e4:=e1.trans (e2.trans e3)
    simp[World.cell?,e4]
   generalize(((w0.alloc (.cells #[.pointer (some ⟨b,o,none⟩)] 149)).alloc (.cells #[.pointer (some ⟨b,o,none⟩)] 149)).alloc (.cells cs 153))=W at *
   go_wp2_with (go_at_call 149; refine hcallee.mono ?_; rintro e w3 ⟨v3,rfl,hB3,hown3⟩)
   go_ret
   rw[Nat.zero_add,List.nil_append]at hown3
   exact Tpi hB3 hown3
end Go.Proofs.YtjpibniecllafaaGreat.AM
end
section
namespace Go.Proofs.YtjpibniecllafaaGreat.AM
open Go Go.RowKit Go.Maps
attribute [local go_sem ↓] Go.wp_at_zero Go.wp_at_succ
structure RevM (w:World) (B b ub cap mg mf:Nat) (um:List Nat) (U:List (List Int)) (fl:Int) (G F:List Int):Prop where
 n1:1<=U.length
 f0:0<=fl
 le:fl+U.length<=201
 bb:B<=b
 cells:w.heap[b]?=some (.cells #[.slice (some ⟨ub,0,none⟩) U.length cap,.int .i64 fl,.map (some mg),.map (some mf)] 164 (0,0))
 row:w.ownsRow B 161 1 (.slice (some ⟨ub,0,none⟩) U.length cap) U.length (um.map fun m=> .map (some m))
 len:um.length=U.length
 sets:∀(i m:Nat) (l:List Int),um[i]?=some m->U[i]?=some l->B<=m/\SetAt w m l
 gb:B<=mg
 fb:B<=mf
 gset:SetAt w mg G
 fset:SetAt w mf F
 nd: (ub::b::mg::mf::um).Nodup
theorem wrapI (n:Int)(h0: -9223372036854775808<=n)(h1:n<=9223372036854775807):IntKind.wrap .i64 n=n:=by
 simp only[IntKind.wrap,IntKind.bits,IntKind.signed]
 simp
 split<;> omega
section
variable {w:World}{B b ub cap mg mf:Nat}{um:List Nat}{U:List (List Int)}{fl:Int}{G F:List Int}
theorem RevM.row' (h:RevM w B b ub cap mg mf um U fl G F):∃ cur,B<=ub/\w.heap[ub]?=some (.cells cur 161 (0,0))/\U.length<=cap/\cap<=maxLen/\cur.size=cap/\cur.toList.take U.length=um.map fun m=> .map (some m):=by
 rcases h.row.2 with⟨_,h1⟩ | ⟨g,cp,cur,hv,h1,h2,h3,h4,h5,h6⟩
 · have:=h.n1; omega
 · simp only[Value.slice.injEq,oIE,Addr.mk.injEq]at hv
   obtain⟨⟨rfl,_⟩,_,rfl⟩:=hv
   exact⟨cur,h1,h2,h3,h4,by omega,by simpa using h6⟩
theorem RevM.at_ (h:RevM w B b ub cap mg mf um U fl G F){i m:Nat}(hm:um[i]?=some m):w.cell? ⟨ub,i,none⟩=some (.map (some m)):=by
 obtain⟨cur,_,h2,h3,_,h5,h6⟩:=h.row'
 have hi:i<U.length:=by have:= (List.getElem?_eq_some_iff.1 hm).1; have:=h.len; omega
 have e: (cur.toList.take U.length)[i]?=some (.map (some m)):=by rw[h6,List.getElem?_map,hm]; rfl
 rw[List.getElem?_take_of_lt hi,Array.getElem?_toList]at e
 simp[World.cell?,h2,e]
theorem RevM.lt (h:RevM w B b ub cap mg mf um U fl G F):∀ k∈ub::b::mg::mf::um,B<=k/\k<w.heap.size:=by
 obtain⟨cur,q1,q2,_⟩:=h.row'
 intro k hk
 rcases List.mem_cons.1 hk with rfl | hk
 · exact⟨q1,(Array.getElem?_eq_some_iff.1 q2).1⟩
 rcases List.mem_cons.1 hk with rfl | hk
 · exact⟨h.bb,(Array.getElem?_eq_some_iff.1 h.cells).1⟩
 rcases List.mem_cons.1 hk with rfl | hk
 · exact⟨h.gb,h.gset.lt⟩
 rcases List.mem_cons.1 hk with rfl | hk
 · exact⟨h.fb,h.fset.lt⟩
 obtain⟨i,hi⟩:=List.mem_iff_getElem?.1 hk
 have hl:i<U.length:=by have:= (List.getElem?_eq_some_iff.1 hi).1; have:=h.len; omega
 have:=h.sets i k _ hi (List.getElem?_eq_getElem hl)
 exact⟨this.1,this.2.lt⟩
theorem RevM.keep (h:RevM w B b ub cap mg mf um U fl G F){w':World}(hk:∀ k∈ub::b::mg::mf::um,w'.heap[k]?=w.heap[k]?):RevM w' B b ub cap mg mf um U fl G F:=by
 refine⟨h.n1,h.f0,h.le,h.bb,(hk b (by simp)).trans h.cells,?_,h.len,fun i m l hi hl=> ⟨(h.sets i m l hi hl).1,(h.sets i m l hi hl).2.keep (hk m (by simp[List.mem_of_getElem? hi]))⟩,h.gb,h.fb,h.gset.keep (hk mg (by simp)),h.fset.keep (hk mf (by simp)),h.nd⟩
 refine⟨h.row.1,?_⟩
 rcases h.row.2 with q | ⟨g,cp,cur,hv,h1,h2,h3⟩
 · exact .inl q
 · refine .inr ⟨g,cp,cur,hv,h1,(hk g ?_).trans h2,h3⟩
   simp only[Value.slice.injEq,oIE,Addr.mk.injEq]at hv
   simp[hv.1.1]
theorem RevM.below (h:RevM w B b ub cap mg mf um U fl G F){w':World}(hb:Below w.heap.size w w'):RevM w' B b ub cap mg mf um U fl G F:=h.keep fun k hk=>hb.block k (h.lt k hk).2
theorem Tee (h:RevM w B b ub cap mg mf um U fl G F) :
 Calls Tryz.prog 59 #[.pointer (some ⟨b,0,none⟩)] w fun e w'=>e= .returned (.int .i64 (fl+U.length-1))/\Below w.heap.size w w':=by
 have k1:=h.n1
 have k2:=h.f0
 have k3:=h.le
 have c0:w.cell? ⟨b,0,none⟩=some (.slice (some ⟨ub,0,none⟩) U.length cap):=by simp[World.cell?,h.cells]
 have c1:w.cell? ⟨b,1,none⟩=some (.int .i64 fl):=by simp[World.cell?,h.cells]
 clear h
 generalize U.length=n at *
 have e1:IntKind.i64.wrap (IntKind.i64.wrap (fl+n)-1)=fl+n-1:=by
  rw[wrapI (fl+n) (by omega) (by omega),wrapI _ (by omega) (by omega)]
 go_enter Tryz.func59,Tryz.ntmps59
 go_wp2
 go_region_held3 (fun w'=>w'.cell? ⟨b,0,none⟩=some (.slice (some ⟨ub,0,none⟩) n cap)/\w'.cell? ⟨b,1,none⟩=some (.int .i64 fl)) (go_keep) (fail)
 all_goals go_wp2
 go_ret
 exact⟨rfl,⟨rfl,rfl,rfl,Nat.le_refl _,fun _ _=>rfl⟩⟩
theorem Tpj (h:RevM w B b ub cap mg mf um U fl G F)(r:Int) :
 Calls Tryz.prog 151 #[.pointer (some ⟨b,0,none⟩),.int .i64 r] w fun e w'=>e= .returned (.bool (decide (fl<=r)&&decide (r<=fl+U.length-1)))/\Below w.heap.size w w':=by
 have hH:=Tee h
 have c1:w.cell? ⟨b,1,none⟩=some (.int .i64 fl):=by simp[World.cell?,h.cells]
 clear h
 go_enter Tryz.func151,Tryz.ntmps151
 by_cases hr:fl<=r
 · have f1:decide (r≥fl)=true:=decide_eq_true hr
   go_wp2_with (go_at_call 59; refine hH.mono ?_; rintro e w' ⟨rfl,hb⟩)
   go_ret
   exact⟨by simp[hr],hb⟩
 · have f1:decide (r≥fl)=false:=decide_eq_false hr
   go_wp2
   go_ret
   exact⟨by simp[hr],Below.refl _ _⟩
theorem T1t (h:RevM w B b ub cap mg mf um U fl G F)(g:Int)(h0: -9223372036854775808<=g)(h1:g<=9223372036854775807) :
 Calls Tryz.prog 108 #[.pointer (some ⟨b,0,none⟩),.int .i64 g] w fun e w'=>e= .returned (.bool (decide (g∈G)))/\Below w.heap.size w w':=by
 have c2:w.cell? ⟨b,2,none⟩=some (.map (some mg)):=by simp[World.cell?,h.cells]
 have hs:=h.gset
 have hh:=Tjw G g
 clear h
 go_enter Tryz.func108,Tryz.ntmps108
 go_wp2_with (at_lookup; refine wpList_lookup_own_unit _ rfl _ _ 161 rfl 3 171 Tbl Tryz.underlying161 (Tryz.zeroValue171 _) mg 60 _ rfl hs.1 _ _ rfl (Tck g h0 h1) ?_)
 go_ret
 exact⟨rfl,(Below.refl _ _).alloc (Nat.le_refl _) _⟩
end
end Go.Proofs.YtjpibniecllafaaGreat.AM
end
section
namespace Go.Proofs
open Go.Shelf
def Tryz.mclone_ren:Go.Shelf.Ren:= ⟨fun | 5=>154 | 7=>201 | n=>n,fun | 23=>161 | 25=>3 | 3=>171 | 4=>4 | 20=>20 | n=>n,fun | n=>n⟩
theorem Tryz.mclone:Go.Proofs.SlLaysW.n5 Tryz.prog Tryz.mclone_ren:= {
 mixed:=by kernel_rfl
 f5:= ⟨Tryz.f154.name,by decide,Tryz.func154.trans (congrArg some (by kernel_rfl))⟩
 f7:=Tryz.func201.trans (congrArg some (by kernel_rfl))
 t4:=Tryz.underlying4
 a4:=Tryz.isAgg4
 z4:=Tryz.sizeOf4
 v4:=Tryz.zeroValue4
 t20:=Tryz.underlying20
 a20:=Tryz.isAgg20
 z20:=Tryz.sizeOf20
 v20:=Tryz.zeroValue20
 t23:=Tryz.underlying161
 a23:=Tryz.isAgg161
 z23:=Tryz.sizeOf161
 v23:=Tryz.zeroValue161}
def Tryz.mkeys_ren:Go.Shelf.Ren:= ⟨fun | 7=>203 | 10=>224 | n=>n,fun | 23=>161 | 26=>3 | 3=>171 | 28=>254 | 0=>0 | 27=>253 | 33=>165 | 4=>4 | n=>n,fun | n=>n⟩
theorem Tryz.mkeys:Go.Proofs.SlLaysZI.n7 Tryz.prog Tryz.mkeys_ren:= {
 mixed:=by kernel_rfl
 f7:= ⟨Tryz.f203.name,by decide,Tryz.func203.trans (congrArg some (by kernel_rfl))⟩
 f10:= ⟨Tryz.f224.name,by decide,Tryz.func224.trans (congrArg some (by kernel_rfl))⟩
 t0:=Tryz.underlying0
 a0:=Tryz.isAgg0
 z0:=Tryz.sizeOf0
 v0:=Tryz.zeroValue0
 t4:=Tryz.underlying4
 a4:=Tryz.isAgg4
 z4:=Tryz.sizeOf4
 v4:=Tryz.zeroValue4
 t23:=Tryz.underlying161
 a23:=Tryz.isAgg161
 z23:=Tryz.sizeOf161
 v23:=Tryz.zeroValue161
 t26:=Tryz.underlying3
 a26:=Tryz.isAgg3
 z26:=Tryz.sizeOf3
 v26:=Tryz.zeroValue3
 t27:=Tryz.underlying253
 a27:=Tryz.isAgg253
 z27:=Tryz.sizeOf253
 v27:=Tryz.zeroValue253
 t28:=Tryz.underlying254
 a28:=Tryz.isAgg254
 z28:=Tryz.sizeOf254
 v28:=Tryz.zeroValue254
 t33:=Tryz.underlying165
 a33:=Tryz.isAgg165
 z33:=Tryz.sizeOf165
 v33:=Tryz.zeroValue165}
def Tryz.msorted_ren:Go.Shelf.Ren:= ⟨fun | 6=>202 | 8=>222 | 9=>223 | 11=>230 | 13=>232 | 12=>231 | 23=>245 | 24=>246 | 14=>237 | 15=>238 | 16=>239 | 17=>240 | 18=>241 | 19=>242 | 20=>193 | 21=>243 | 22=>244 | 25=>249 | 26=>250 | 27=>251 | 28=>252 | 29=>253 | 30=>215 | 31=>255 | n=>n,fun | 26=>3 | 28=>254 | 24=>30 | 0=>0 | 3=>3 | 37=>124 | 48=>284 | 50=>296 | 4=>4 | 40=>289 | 39=>288 | 45=>207 | 5=>5 | 9=>9 | 51=>297 | 55=>301 | 57=>303 | 58=>80 | 33=>165 | n=>n,fun | n=>n⟩
theorem Tryz.msorted:Go.Proofs.SlLaysZI.n6 Tryz.prog Tryz.msorted_ren:= {
 mixed:=by kernel_rfl
 f6:= ⟨Tryz.f202.name,by decide,Tryz.func202.trans (congrArg some (by kernel_rfl))⟩
 f8:= ⟨Tryz.f222.name,by decide,Tryz.func222.trans (congrArg some (by kernel_rfl))⟩
 f11:= ⟨Tryz.f230.name,by decide,Tryz.func230.trans (congrArg some (by kernel_rfl))⟩
 t0:=Tryz.underlying0
 a0:=Tryz.isAgg0
 z0:=Tryz.sizeOf0
 v0:=Tryz.zeroValue0
 t24:=Tryz.underlying30
 a24:=Tryz.isAgg30
 z24:=Tryz.sizeOf30
 v24:=Tryz.zeroValue30
 t26:=Tryz.underlying3
 a26:=Tryz.isAgg3
 z26:=Tryz.sizeOf3
 v26:=Tryz.zeroValue3
 t28:=Tryz.underlying254
 a28:=Tryz.isAgg254
 z28:=Tryz.sizeOf254
 v28:=Tryz.zeroValue254
 i26:=by kernel_rfl}
def Tryz.msort_ren:Go.Shelf.Ren:= ⟨fun | 5=>223 | 8=>232 | 7=>231 | 19=>245 | 20=>246 | 10=>237 | 11=>238 | 12=>239 | 13=>240 | 14=>241 | 15=>242 | 16=>193 | 17=>243 | 18=>244 | 30=>249 | 31=>250 | 32=>251 | 33=>252 | 34=>253 | 35=>215 | 40=>255 | n=>n,fun | 23=>30 | 25=>3 | 3=>3 | 32=>124 | 22=>30 | 0=>0 | 44=>284 | 46=>296 | 4=>4 | 36=>289 | 35=>288 | 41=>207 | 5=>5 | 9=>9 | 53=>297 | 57=>301 | 63=>303 | 64=>80 | n=>n,fun | n=>n⟩
theorem Tryz.msort:Go.Proofs.SlLaysM.n5 Tryz.prog Tryz.msort_ren:= {
 mixed:=by kernel_rfl
 f5:= ⟨Tryz.f223.name,by decide,Tryz.func223.trans (congrArg some (by kernel_rfl))⟩
 f7:= ⟨Tryz.f231.name,by decide,Tryz.func231.trans (congrArg some (by kernel_rfl))⟩
 f8:=Tryz.func232.trans (congrArg some (by kernel_rfl))
 f10:= ⟨Tryz.f237.name,by decide,Tryz.func237.trans (congrArg some (by kernel_rfl))⟩
 f11:= ⟨Tryz.f238.name,by decide,Tryz.func238.trans (congrArg some (by kernel_rfl))⟩
 f12:= ⟨Tryz.f239.name,by decide,Tryz.func239.trans (congrArg some (by kernel_rfl))⟩
 f13:= ⟨Tryz.f240.name,by decide,Tryz.func240.trans (congrArg some (by kernel_rfl))⟩
 f14:= ⟨Tryz.f241.name,by decide,Tryz.func241.trans (congrArg some (by kernel_rfl))⟩
 f15:= ⟨Tryz.f242.name,by decide,Tryz.func242.trans (congrArg some (by kernel_rfl))⟩
 f16:= ⟨Tryz.f193.name,by decide,Tryz.func193.trans (congrArg some (by kernel_rfl))⟩
 f17:= ⟨Tryz.f243.name,by decide,Tryz.func243.trans (congrArg some (by kernel_rfl))⟩
 f18:= ⟨Tryz.f244.name,by decide,Tryz.func244.trans (congrArg some (by kernel_rfl))⟩
 f19:=Tryz.func245.trans (congrArg some (by kernel_rfl))
 f20:=Tryz.func246.trans (congrArg some (by kernel_rfl))
 f30:= ⟨Tryz.f249.name,by decide,Tryz.func249.trans (congrArg some (by kernel_rfl))⟩
 f31:=Tryz.func250.trans (congrArg some (by kernel_rfl))
 f32:=Tryz.func251.trans (congrArg some (by kernel_rfl))
 f33:= ⟨Tryz.f252.name,by decide,Tryz.func252.trans (congrArg some (by kernel_rfl))⟩
 f34:= ⟨Tryz.f253.name,by decide,Tryz.func253.trans (congrArg some (by kernel_rfl))⟩
 f35:= ⟨Tryz.f215.name,by decide,Tryz.func215.trans (congrArg some (by kernel_rfl))⟩
 f40:= ⟨Tryz.f255.name,by decide,Tryz.func255.trans (congrArg some (by kernel_rfl))⟩
 t0:=Tryz.underlying0
 a0:=Tryz.isAgg0
 z0:=Tryz.sizeOf0
 v0:=Tryz.zeroValue0
 t3:=Tryz.underlying3
 a3:=Tryz.isAgg3
 z3:=Tryz.sizeOf3
 v3:=Tryz.zeroValue3
 t4:=Tryz.underlying4
 a4:=Tryz.isAgg4
 z4:=Tryz.sizeOf4
 v4:=Tryz.zeroValue4
 t5:=Tryz.underlying5
 a5:=Tryz.isAgg5
 z5:=Tryz.sizeOf5
 v5:=Tryz.zeroValue5
 t9:=Tryz.underlying9
 a9:=Tryz.isAgg9
 z9:=Tryz.sizeOf9
 v9:=Tryz.zeroValue9
 t22:=Tryz.underlying30
 a22:=Tryz.isAgg30
 z22:=Tryz.sizeOf30
 v22:=Tryz.zeroValue30
 t23:=Tryz.underlying30
 a23:=Tryz.isAgg30
 z23:=Tryz.sizeOf30
 v23:=Tryz.zeroValue30
 t25:=Tryz.underlying3
 a25:=Tryz.isAgg3
 z25:=Tryz.sizeOf3
 v25:=Tryz.zeroValue3
 t32:=Tryz.underlying124
 a32:=Tryz.isAgg124
 z32:=Tryz.sizeOf124
 v32:=Tryz.zeroValue124
 t35:=Tryz.underlying288
 a35:=Tryz.isAgg288
 z35:=Tryz.sizeOf288
 v35:=Tryz.zeroValue288
 t36:=Tryz.underlying289
 a36:=Tryz.isAgg289
 z36:=Tryz.sizeOf289
 v36:=Tryz.zeroValue289
 t41:=Tryz.underlying207
 a41:=Tryz.isAgg207
 z41:=Tryz.sizeOf207
 v41:=Tryz.zeroValue207
 t44:=Tryz.underlying284
 a44:=Tryz.isAgg284
 z44:=Tryz.sizeOf284
 v44:=Tryz.zeroValue284
 t46:=Tryz.underlying296
 a46:=Tryz.isAgg296
 z46:=Tryz.sizeOf296
 v46:=Tryz.zeroValue296
 t53:=Tryz.underlying297
 a53:=Tryz.isAgg297
 z53:=Tryz.sizeOf297
 v53:=Tryz.zeroValue297
 t57:=Tryz.underlying301
 a57:=Tryz.isAgg301
 z57:=Tryz.sizeOf301
 v57:=Tryz.zeroValue301
 t63:=Tryz.underlying303
 a63:=Tryz.isAgg303
 z63:=Tryz.sizeOf303
 v63:=Tryz.zeroValue303
 t64:=Tryz.underlying80
 a64:=Tryz.isAgg80
 z64:=Tryz.sizeOf80
 v64:=Tryz.zeroValue80}
end Go.Proofs
end
section
namespace Go.Proofs.YtjpibniecllafaaGreat.AM
open Go Go.RowKit Go.Maps Go.Proofs
attribute [local go_sem ↓] Go.wp_at_zero Go.wp_at_succ
structure Tch (w w':World) (T:Nat->Prop):Prop where
 os:w'.os=w.os
 tape:w'.tape=w.tape
 output:w'.output=w.output
 size:w.heap.size<=w'.heap.size
 block:∀ k,k<w.heap.size->¬ T k->w'.heap[k]?=w.heap[k]?
theorem Tch.of {w w':World}{T:Nat->Prop}(h:Below w.heap.size w w'):Tch w w' T:= ⟨h.os,h.tape,h.output,h.size,fun k hk _=>h.block k hk⟩
theorem Tch.trans {w w' w'':World}{T:Nat->Prop}(h:Tch w w' T)(h':Tch w' w'' T):Tch w w'' T:= ⟨h'.os.trans h.os,h'.tape.trans h.tape,h'.output.trans h.output,Nat.le_trans h.size h'.size,fun k hk ht=> (h'.block k (Nat.lt_of_lt_of_le hk h.size) ht).trans (h.block k hk ht)⟩
section
variable {w:World}{B b ub cap mg mf:Nat}{um:List Nat}{U:List (List Int)}{fl:Int}{G F:List Int}
theorem Tzl:elOk Tryz.prog 161 1 8=true:=by decide +kernel
theorem Tf6 {l:List Int}{m:Nat}(W:World)(h:SetAt W m l):Calls Tryz.prog 154 #[.map (some m)] W fun e w'=>e= .returned (.map (some W.heap.size))/\SetAt w' W.heap.size l/\W.heap.size<w'.heap.size/\Below W.heap.size W w':=by
 refine(AnyW.maps_Clone_owns Tryz.mclone 3 unitElem m 60 (keyL l) W h.1).mono ?_
 rintro e w' ⟨rfl,h1,h2,h3⟩
 exact⟨rfl,⟨h1,h.2⟩,h1.lt,h3⟩
theorem RevM.last (h:RevM w B b ub cap mg mf um U fl G F):∃ k m l,U.length=k+1/\um[k]?=some m/\U[k]?=some l/\U.getLastD []=l/\B<=m/\SetAt w m l:=by
 obtain⟨k,hk⟩:∃ k,U.length=k+1:= ⟨U.length-1,by have:=h.n1; omega⟩
 have h1:k<um.length:=by have:=h.len; omega
 have h2:k<U.length:=by omega
 refine⟨k,um[k],U[k],hk,List.getElem?_eq_getElem h1,List.getElem?_eq_getElem h2,?_,h.sets k _ _ (List.getElem?_eq_getElem h1) (List.getElem?_eq_getElem h2)⟩
 have hne:U≠ []:=by intro e; simp[e]at hk
 rw[List.getLastD_eq_getLast?,List.getLast?_eq_some_getLast hne,Option.getD_some,List.getLast_eq_getElem]
 congr 1
 omega
set_option maxRecDepth 100000 in
theorem Tpk (h:RevM w B b ub cap mg mf um U fl G F) (hBw:B<=w.heap.size) :
 Calls Tryz.prog 98 #[.pointer (some ⟨b,0,none⟩)] w fun e w' =>
  (200<=fl+U.length-1/\e= .returned (.tuple #[.map none,.int .i64 70])/\Below w.heap.size w w') ∨
  (fl+U.length-1<200/\∃ m ub' cap',e= .returned (.tuple #[.map (some m),.int .i64 0])/\RevM w' B b ub' cap' mg mf (um++ [m]) (U++ [U.getLastD []]) fl G F/\w.heap.size<=m/\ (ub'=ub∨w.heap.size<=ub')/\Tch w w' fun k=>k=b∨k=ub):=by
 have hH:=Tee h
 obtain⟨k,m,l,hk,hm,hl,hlast,hmB,hset⟩:=h.last
 rw[hlast]
 have c0:w.cell? ⟨b,0,none⟩=some (.slice (some ⟨ub,0,none⟩) U.length cap):=by simp[World.cell?,h.cells]
 have c3:=h.at_ hm
 have k2:=h.f0
 have k3:=h.le
 have hk1:k<U.length:=by omega
 have hk2:U.length<=k+1:=by omega
 have hlt:=h.lt
 obtain⟨n,hn⟩:∃ n,U.length=n:= ⟨_,rfl⟩
 rw[hn]at c0 hH k3 hk1 hk2 ⊢
 clear hk
 go_enter Tryz.func98,Tryz.ntmps98
 by_cases hh:200<=fl+ (n:Int)-1
 · have f1:decide (fl+ (n:Int)-1≥200)=true:=decide_eq_true hh
   go_wp2_with (go_at_call 59; refine hH.mono ?_; rintro e w' ⟨rfl,hb⟩)
   go_ret2
   exact .inl ⟨hh,rfl,hb⟩
 · have f1:decide (fl+ (n:Int)-1≥200)=false:=decide_eq_false hh
   go_wp2_with (go_at_call 59; refine hH.mono ?_; rintro e w1 ⟨rfl,hb⟩)
   have hsz:=hb.size
   have d0:w1.cell? ⟨b,0,none⟩=some (.slice (some ⟨ub,0,none⟩) n cap):= (World.cell?_of_block (hb.block b (h.lt b (by simp)).2)).trans c0
   have d3:w1.cell? ⟨ub,k,none⟩=some (.map (some m)):= (World.cell?_of_block (hb.block ub (h.lt ub (by simp)).2)).trans c3
   have hC:∀ W:World,w1=W∨w1.drew=W->Calls Tryz.prog 154 #[.map (some m)] W fun e w'=>e= .returned (.map (some w1.heap.size))/\w'.cell? ⟨b,0,none⟩=some (.slice (some ⟨ub,0,none⟩) n cap)/\w'.cell? ⟨ub,k,none⟩=some (.map (some m))/\SetAt w' w1.heap.size l/\w1.heap.size<w'.heap.size/\Below w.heap.size w w':=by
    intro W hW
    have e1:W.heap=w1.heap:=by rcases hW with rfl | rfl<;> rfl
    have e2:Below w.heap.size w W:=hW.elim (fun e=>e▸hb) (fun e=>e▸ ⟨hb.os,hb.tape,hb.output,hb.size,hb.block⟩)
    refine(Tf6 W (hset.keep (by rw[e1]; exact hb.block m hset.lt))).mono ?_
    rintro e w' ⟨rfl,q1,q2,q3⟩
    rw[e1]at q1 q2 q3 ⊢
    have q4:Below w.heap.size w w':=e2.trans (q3.mono hsz)
    exact⟨rfl,(World.cell?_of_block (q4.block b (h.lt b (by simp)).2)).trans c0,(World.cell?_of_block (q4.block ub (h.lt ub (by simp)).2)).trans c3,q1,q2,q4⟩
   have i1:IntKind.i64.wrap ((n:Int)-1)= (k:Int):=by rw[wrapI _ (by omega) (by omega)]; omega
   have i2: (0:Int)<= (k:Int):=by omega
   have i3: (k:Int)< (n:Int):=by omega
   go_region_held3 (fun w'=>w'.cell? ⟨b,0,none⟩=some (.slice (some ⟨ub,0,none⟩) n cap)/\w'.cell? ⟨ub,k,none⟩=some (.map (some m))) (go_keep)
    (first | (go_at_call 154; refine(hC _ ?_).mono ?_; (simp); rintro e w2 ⟨rfl,q0,q3,q5,q6,q7⟩))
   have R2:RevM w2 B b ub cap mg mf um U fl G F:=h.below q7
   obtain⟨i,z,hi,hz,hi1,hby1,hzs⟩:=Tbp Tzl
   have hs2:=q7.size
   go_wp2_with (at_builtin; refine wpList_append_lies _ rfl _ _ _ rfl B 161 i z 1 8 Tryz.underlying162 hi hz hi1 hby1 hzs (by omega) (.slice (some ⟨ub,0,none⟩) n cap) n (um.map fun m=> .map (some m)) rfl ?own ⟨w2.heap.size,0,none⟩ 1 1 [.map (some w1.heap.size)] rfl rfl ?news ?one (by omega) ?c1 ?c2 ?c3 (w2.heap.size+1) (by simp) ?_)
   case own=>rw[← hn]; exact R2.row.alloc _
   case news=>exact World.news_of_block (heap_alloc_new w2 _)
   case one=>simp[Value.oneCell']
   case c1=>simp only[maxLen]; omega
   case c2=>omega
   case c3=>simp; omega
   intro g cap' w3 hown hgrow hat hlt3
   have hnb:ub≠b:=by have:=h.nd; simp at this; exact this.1.1
   have hbl:= (hlt b (by simp)).2
   have e0: (w2.alloc (.cells #[.map (some w1.heap.size)] 161)).heap.size=w2.heap.size+1:=by simp
   have old:∀ k,k<w2.heap.size->k≠ub->w3.heap[k]?=w2.heap[k]?:=fun k hk hne=> (hgrow.block k (by rw[e0]; omega) (by simpa[Value.ownBlock]using hne)).trans (Lib.alloc_old w2 _ k hk)
   have hc3:w3.heap[b]?=some (.cells #[.slice (some ⟨ub,0,none⟩) n cap,.int .i64 fl,.map (some mg),.map (some mf)] 164 (0,0)):=by rw[old b (by omega) (Ne.symm hnb),R2.cells,hn]
   have d1:w3.cell? ⟨b,0,none⟩=some (.slice (some ⟨ub,0,none⟩) n cap):=by simp[World.cell?,hc3]
   have d2:w3.frozen? ⟨b,0,none⟩=false:=by simp[World.frozen?,hc3]
   go_wp2
   go_ret2
   have hgb:g≠b:=by
    rcases hat with h1 | h1
    · simp[Value.ownBlock]at h1; omega
    · omega
   have e4:∀ k,k<w2.heap.size->k≠ub->k≠b-> (w3.setCell ⟨b,0,none⟩ (.slice (some ⟨g,0,none⟩) (n+1) cap')).heap[k]?=w2.heap[k]?:=fun k hk h1 h2=> (heap_setCell_other w3 ⟨b,0,none⟩ k _ h2).trans (old k hk h1)
   have hlt2:=R2.lt
   have hnd:=h.nd
   have hbb:w.heap.size<=w1.heap.size:=hb.size
   refine .inr ⟨hh,w1.heap.size,g,cap',rfl,⟨by simp,k2,by simp; omega,h.bb,?_,?_,by simp[h.len],?_,h.gb,h.fb,?_,?_,?_⟩,hbb,?_,?_⟩
   · have:=heap_setCell_same w3 b 0 _ _ (.slice (some ⟨g,0,none⟩) (n+1) cap') hc3
     simpa[hn]using this
   · have:=ownsRow_setCell_other (a:= ⟨b,0,none⟩) hown (by simpa[Value.ownBlock]using hgb) (.slice (some ⟨g,0,none⟩) (n+1) cap')
     simpa[hn]using this
   · intro i m1 l1 h1 h2
     by_cases hi:i<n
     · rw[List.getElem?_append_left (by rw[h.len]; omega)]at h1
       rw[List.getElem?_append_left (by omega)]at h2
       have hm1:=List.mem_of_getElem? h1
       have hs:=R2.sets i m1 l1 h1 h2
       have hne:m1≠ub/\m1≠b:=by
        constructor<;> rintro rfl<;> simp[hm1]at hnd
       exact⟨hs.1,hs.2.keep (e4 m1 (hlt2 m1 (by simp[hm1])).2 hne.1 hne.2)⟩
     · have hin:i=n:=by
        have:= (List.getElem?_eq_some_iff.1 h2).1
        simp at this; omega
       subst hin
       rw[List.getElem?_append_right (by rw[h.len]; omega)]at h1
       rw[List.getElem?_append_right (by omega)]at h2
       simp[h.len,hn]at h1 h2
       subst h1 h2
       exact⟨by omega,q5.keep (e4 _ q6 (by have:= (hlt ub (by simp)).2; omega) (by omega))⟩
   · have:mg≠ub/\mg≠b:=by constructor<;> rintro rfl<;> simp at hnd
     exact R2.gset.keep (e4 mg (hlt2 mg (by simp)).2 this.1 this.2)
   · have:mf≠ub/\mf≠b:=by constructor<;> rintro rfl<;> simp at hnd
     exact R2.fset.keep (e4 mf (hlt2 mf (by simp)).2 this.1 this.2)
   · have hg:∀ k∈b::mg::mf::um,k≠g:=by
      intro k hk
      have:= (hlt k (List.mem_cons_of_mem _ hk)).2
      rcases hat with h1 | h1
      · simp[Value.ownBlock]at h1
        subst h1
        rintro rfl
        exact(List.nodup_cons.1 hnd).1 hk
      · omega
     have hm2:∀ k∈g::b::mg::mf::um,k≠w1.heap.size:=by
      intro k hk
      rcases List.mem_cons.1 hk with rfl | hk
      · rcases hat with h1 | h1
        · simp[Value.ownBlock]at h1
          have:= (hlt ub (by simp)).2; omega
        · omega
      · have:= (hlt k (List.mem_cons_of_mem _ hk)).2; omega
     have e5:g::b::mg::mf:: (um++ [w1.heap.size])= (g::b::mg::mf::um)++ [w1.heap.size]:=rfl
     rw[e5,List.nodup_append]
     refine⟨List.nodup_cons.2 ⟨fun hk=>hg _ hk rfl,(List.nodup_cons.1 hnd).2⟩,by simp,?_⟩
     intro x hx y hy
     simp at hy
     subst hy
     exact hm2 x hx
   · rcases hat with h1 | h1
     · simp[Value.ownBlock]at h1; exact .inl h1.symm
     · exact .inr (by omega)
   · have hsz4:=hgrow.size
     refine⟨?_,?_,?_,by simp; omega,fun k hk ht=> (e4 k (by omega) (fun e=>ht (.inr e)) fun e=>ht (.inl e)).trans (q7.block k hk)⟩
     · exact(hgrow.os).trans q7.os
     · exact(hgrow.tape).trans q7.tape
     · exact(hgrow.output).trans q7.output
end
end Go.Proofs.YtjpibniecllafaaGreat.AM
end
section
namespace Go.Proofs.YtjpibniecllafaaGreat.AM
open Go Go.RowKit Go.Maps Go.Proofs
attribute [local go_sem ↓] Go.wp_at_zero Go.wp_at_succ
section
variable {w:World}{B b ub cap mg mf:Nat}{um:List Nat}{U:List (List Int)}{fl:Int}{G F:List Int}
theorem RevM.upG (h:RevM w B b ub cap mg mf um U fl G F){w':World}{G':List Int}(hs:SetAt w' mg G')(hk:∀ k,k<w.heap.size->k≠mg->w'.heap[k]?=w.heap[k]?):RevM w' B b ub cap mg mf um U fl G' F:=by
 have hlt:=h.lt
 have hnd:=h.nd
 have k0:∀ k∈ub::b::mf::um,w'.heap[k]?=w.heap[k]?:=by
  intro k hm
  have h1:k∈ub::b::mg::mf::um:=by
   rcases List.mem_cons.1 hm with rfl | hm
   · simp
   rcases List.mem_cons.1 hm with rfl | hm
   · simp
   · exact List.mem_cons_of_mem _ (List.mem_cons_of_mem _ (List.mem_cons_of_mem _ hm))
  refine hk k (hlt k h1).2 ?_
  rintro rfl
  rcases List.mem_cons.1 hm with rfl | hm
  · simp at hnd
  rcases List.mem_cons.1 hm with rfl | hm
  · simp at hnd
  · have:= (List.nodup_cons.1 (List.nodup_cons.1 (List.nodup_cons.1 hnd).2).2).1
    exact this hm
 refine⟨h.n1,h.f0,h.le,h.bb,(k0 b (by simp)).trans h.cells,⟨h.row.1,?_⟩,h.len,fun i m l hi hl=> ⟨(h.sets i m l hi hl).1,(h.sets i m l hi hl).2.keep (k0 m (by simp[List.mem_of_getElem? hi]))⟩,h.gb,h.fb,hs,h.fset.keep (k0 mf (by simp)),h.nd⟩
 rcases h.row.2 with q | ⟨g,cp,cur,hv,h1,h2,h3⟩
 · exact .inl q
 · refine .inr ⟨g,cp,cur,hv,h1,(k0 g ?_).trans h2,h3⟩
   simp only[Value.slice.injEq,oIE,Addr.mk.injEq]at hv
   simp[hv.1.1]
theorem RevM.upL {m:Nat}{l:List Int}(h:RevM w B b ub cap mg mf (um++ [m]) (U++ [l]) fl G F){w':World}{l':List Int}(hs:SetAt w' m l')(hk:∀ k,k<w.heap.size->k≠m->w'.heap[k]?=w.heap[k]?):RevM w' B b ub cap mg mf (um++ [m]) (U++ [l']) fl G F:=by
 have hlt:=h.lt
 have hnd:=h.nd
 have hlen:um.length=U.length:=by simpa using h.len
 have e5:ub::b::mg::mf:: (um++ [m])= (ub::b::mg::mf::um)++ [m]:=rfl
 rw[e5]at hnd hlt
 have k0:∀ k∈ub::b::mg::mf::um,w'.heap[k]?=w.heap[k]?:=by
  intro k hm
  refine hk k (hlt k (List.mem_append_left _ hm)).2 ?_
  rintro rfl
  exact(List.nodup_append.1 hnd).2.2 k hm k (by simp) rfl
 have n1:=h.n1
 have le:=h.le
 have cells:=h.cells
 have row:=h.row
 simp only[List.length_append,List.length_singleton]at n1 le cells row
 refine⟨by simp,h.f0,by simpa using le,h.bb,by simpa using(k0 b (by simp)).trans cells,?_,by simp[hlen],?_,h.gb,h.fb,h.gset.keep (k0 mg (by simp)),h.fset.keep (k0 mf (by simp)),h.nd⟩
 · simp only[List.length_append,List.length_singleton]
   refine⟨row.1,?_⟩
   rcases row.2 with q | ⟨g,cp,cur,hv,h1,h2,h3⟩
   · exact .inl q
   · refine .inr ⟨g,cp,cur,hv,h1,(k0 g ?_).trans h2,h3⟩
     simp only[Value.slice.injEq,oIE,Addr.mk.injEq]at hv
     simp[hv.1.1]
 · intro i m1 l1 hi hl
   by_cases hh:i<U.length
   · have hi':=hi
     rw[List.getElem?_append_left (by omega)]at hi hl
     have:=h.sets i m1 l1 hi' (by rw[List.getElem?_append_left hh]; exact hl)
     exact⟨this.1,this.2.keep (k0 m1 (by simp[List.mem_of_getElem? hi]))⟩
   · have hin:i=U.length:=by
      have:= (List.getElem?_eq_some_iff.1 hl).1
      simp at this; omega
     subst hin
     have:=h.sets U.length m1 l hi (by simp)
     rw[List.getElem?_append_right (by omega)]at hi
     simp[hlen]at hi hl
     subst hi hl
     exact⟨this.1,hs⟩
theorem Tpl {m:Nat}{l:List Int}{w':World}(h:SetAt w m l){g:Int}(h0:0<=g)(h1:g<60)(hown:w'.ownsMap (H:=Unit) Tryz.prog 3 unitElem m 61 ((keyL l).put (.int .i64 g) (.agg []))):SetAt w' m (insS g l):=by
 rw[Twm l h.2.1 g]at hown
 exact SetAt.of hown (h.2.ins h0 h1)
theorem Tx8 {m:Nat}{l:List Int}{w':World}(h:SetAt w m l){g:Int}(hown:w'.ownsMap (H:=Unit) Tryz.prog 3 unitElem m 60 ((keyL l).del (.int .i64 g))):SetAt w' m (delS g l):=by
 rw[Twl l g]at hown
 exact SetAt.of hown (h.2.del g)
theorem Tch.map {w w':World}{m:Nat}(h:w.mapTurned w' m):Tch w w' fun k=>k=m:= ⟨h.grown.os,h.grown.tape,h.grown.output,h.grown.size,fun k hk hne=>h.grown.block k hk (by simpa using hne)⟩
theorem Tch.mono {w w':World}{T S:Nat->Prop}(h:Tch w w' T)(hs:∀ k,k<w.heap.size->T k->S k):Tch w w' S:= ⟨h.os,h.tape,h.output,h.size,fun k hk hn=>h.block k hk fun ht=>hn (hs k hk ht)⟩
theorem Tch.trans' {w w' w'':World}{T S R:Nat->Prop}(h:Tch w w' T)(h':Tch w' w'' S)(ht:∀ k,k<w.heap.size->T k->R k)(hs:∀ k,k<w.heap.size->S k->R k):Tch w w'' R :=
 ⟨h'.os.trans h.os,h'.tape.trans h.tape,h'.output.trans h.output,Nat.le_trans h.size h'.size,fun k hk hn=> (h'.block k (Nat.lt_of_lt_of_le hk h.size) fun x=>hn (hs k hk x)).trans (h.block k hk fun x=>hn (ht k hk x))⟩
def AddPost (w:World)(B b ub mg mf:Nat)(um:List Nat)(U:List (List Int))(fl:Int)(G F:List Int)(g:Int)(e:Ending)(w':World):Prop :=
      ((g∈F∨g<0∨60<=g)/\e= .returned (.tuple #[.int .i64 0,.int .i64 210])/\Below w.heap.size w w') ∨
      (¬ (g∈F∨g<0∨60<=g)/\200<=fl+U.length-1/\e= .returned (.tuple #[.int .i64 0,.int .i64 70])/\Below w.heap.size w w') ∨
      (¬ (g∈F∨g<0∨60<=g)/\¬ 200<=fl+U.length-1/\∃ m ub' cap',e= .returned (.tuple #[.int .i64 (fl+U.length),.int .i64 0])/\RevM w' B b ub' cap' mg mf (um++ [m]) (U++ [U.getLastD []]) fl (insS g G) F/\w.heap.size<=m/\ (ub'=ub∨w.heap.size<=ub')/\Tch w w' fun k=>k=b∨k=ub∨k=mg)
theorem Tjj (h:RevM w B b ub cap mg mf um U fl G F)(hBw:B<=w.heap.size)(hf:200<=fl+U.length-1) :
 Calls Tryz.prog 98 #[.pointer (some ⟨b,0,none⟩)] w fun e w'=>e= .returned (.tuple #[.map none,.int .i64 70])/\Below w.heap.size w w':=by
 refine(Tpk h hBw).mono ?_
 rintro e w' (⟨_,h1,h2⟩ | ⟨h0,_⟩)
 · exact⟨h1,h2⟩
 · omega
theorem Tl6 (h:RevM w B b ub cap mg mf um U fl G F)(hBw:B<=w.heap.size)(hf:¬ 200<=fl+U.length-1) :
 Calls Tryz.prog 98 #[.pointer (some ⟨b,0,none⟩)] w fun e w'=>∃ m ub' cap',e= .returned (.tuple #[.map (some m),.int .i64 0])/\RevM w' B b ub' cap' mg mf (um++ [m]) (U++ [U.getLastD []]) fl G F/\w.heap.size<=m/\ (ub'=ub∨w.heap.size<=ub')/\Tch w w' fun k=>k=b∨k=ub:=by
 refine(Tpk h hBw).mono ?_
 rintro e w' (⟨h0,_⟩ | ⟨_,h1⟩)
 · omega
 · exact h1
set_option maxRecDepth 100000 in
theorem Tnl (h:RevM w B b ub cap mg mf um U fl G F)(hBw:B<=w.heap.size)(g:Int)(h0: -9223372036854775808<=g)(h1:g<=9223372036854775807) :
 Calls Tryz.prog 54 #[.pointer (some ⟨b,0,none⟩),.int .i64 g] w (AddPost w B b ub mg mf um U fl G F g):=by
 have c3:w.cell? ⟨b,3,none⟩=some (.map (some mf)):=by simp[World.cell?,h.cells]
 have hsF:=h.fset
 have hh:=Tjw F g
 by_cases hc:g∈F∨g<0∨60<=g
 · by_cases a1:g∈F
   · rw[decide_eq_true a1]at hh
     go_enter Tryz.func54,Tryz.ntmps54
     go_wp2_with (at_lookup; refine wpList_lookup_own_unit _ rfl _ _ 161 rfl 3 171 Tbl Tryz.underlying161 (Tryz.zeroValue171 _) mf 60 _ rfl hsF.1 _ _ rfl (Tck g h0 h1) ?_)
     go_ret2
     exact .inl ⟨hc,rfl,(Below.refl _ _).alloc (Nat.le_refl _) _⟩
   · rw[decide_eq_false a1]at hh
     by_cases a2:g<0
     · have f2:decide (g<0)=true:=decide_eq_true a2
       go_enter Tryz.func54,Tryz.ntmps54
       go_wp2_with (at_lookup; refine wpList_lookup_own_unit _ rfl _ _ 161 rfl 3 171 Tbl Tryz.underlying161 (Tryz.zeroValue171 _) mf 60 _ rfl hsF.1 _ _ rfl (Tck g h0 h1) ?_)
       go_ret2
       exact .inl ⟨hc,rfl,(Below.refl _ _).alloc (Nat.le_refl _) _⟩
     · have f2:decide (g<0)=false:=decide_eq_false a2
       have f3:decide (g≥60)=true:=decide_eq_true (by rcases hc with hc | hc | hc; exact absurd hc a1; exact absurd hc a2; exact hc)
       go_enter Tryz.func54,Tryz.ntmps54
       go_wp2_with (at_lookup; refine wpList_lookup_own_unit _ rfl _ _ 161 rfl 3 171 Tbl Tryz.underlying161 (Tryz.zeroValue171 _) mf 60 _ rfl hsF.1 _ _ rfl (Tck g h0 h1) ?_)
       go_ret2
       exact .inl ⟨hc,rfl,(Below.refl _ _).alloc (Nat.le_refl _) _⟩
 · have a1:¬ g∈F:=fun e=>hc (.inl e)
   have g0:0<=g:=by omega
   have g1:g<60:=by omega
   rw[decide_eq_false a1]at hh
   have f2:decide (g<0)=false:=decide_eq_false (by omega)
   have f3:decide (g≥60)=false:=decide_eq_false (by omega)
   have hbl:Below w.heap.size w (w.alloc (.cells #[] 171)):= (Below.refl _ _).alloc (Nat.le_refl _) _
   have hs1:B<= (w.alloc (.cells #[] 171)).heap.size:=by simp; omega
   by_cases hf:200<=fl+U.length-1
   · have hN:=Tjj (h.below hbl) hs1 hf
     go_enter Tryz.func54,Tryz.ntmps54
     go_wp2_with (first | (at_lookup; refine wpList_lookup_own_unit _ rfl _ _ 161 rfl 3 171 Tbl Tryz.underlying161 (Tryz.zeroValue171 _) mf 60 _ rfl hsF.1 _ _ rfl (Tck g h0 h1) ?_) | (go_at_call 98; refine hN.mono ?_; rintro e w1 ⟨rfl,hb⟩))
     go_ret2
     exact .inr (.inl ⟨hc,hf,rfl,hbl.trans (hb.mono (by simp))⟩)
   · have hN:=Tl6 (h.below hbl) hs1 hf
     go_enter Tryz.func54,Tryz.ntmps54
     go_wp2_with (first | (at_lookup; refine wpList_lookup_own_unit _ rfl _ _ 161 rfl 3 171 Tbl Tryz.underlying161 (Tryz.zeroValue171 _) mf 60 _ rfl hsF.1 _ _ rfl (Tck g h0 h1) ?_) | (go_at_call 98; refine hN.mono ?_; rintro e w1 ⟨m,ub',cap',rfl,R1,hm,hub,ht⟩; have c2:w1.cell? ⟨b,2,none⟩=some (.map (some mg)):= (by simp[World.cell?,R1.cells])) | (at_mapUpdate; refine wpList_mapUpdate_in _ rfl _ _ _ 161 rfl 3 171 Tbl Tryz.underlying161 unitElem mg 60 _ rfl R1.gset.1 (by decide) _ _ _ rfl rfl (Tck g h0 h1) (.agg []) [] unitElem_mk ?_; intro w2 hown hturn; have R2:=R1.upG (Tpl R1.gset g0 g1 hown) (fun k hk hne=>hturn.grown.block k hk (by simpa using hne))) | (go_at_call 59; refine(Tee R2).mono ?_; rintro e w3 ⟨rfl,hb3⟩))
     go_ret2
     refine .inr (.inr ⟨hc,by omega,m,ub',cap',?_,R2.below hb3,?_,?_,?_⟩)
     · simp; omega
     · simp at hm; omega
     · simp at hub; omega
     · exact(Tch.of hbl).trans' ((ht.trans' (Tch.map hturn) (fun k _=> .inl) fun k _=> .inr).trans' (T:=fun k=> (k=b∨k=ub)∨k=mg) (S:=fun _=>False) (R:=fun k=> (k=b∨k=ub)∨k=mg) (Tch.of hb3) (fun k _ x=>x) (fun k _ x=>x.elim)) (T:=fun _=>False) (fun k _ x=>x.elim) (fun k _ x=>by omega)
def TogPost (w:World)(B b ub mg mf:Nat)(um:List Nat)(U:List (List Int))(fl:Int)(G F:List Int)(g:Int)(e:Ending)(w':World):Prop :=
      (g∉G/\e= .returned (.tuple #[.int .i64 0,.int .i64 210])/\Below w.heap.size w w') ∨
      (g∈G/\200<=fl+U.length-1/\e= .returned (.tuple #[.int .i64 0,.int .i64 70])/\Below w.heap.size w w') ∨
      (g∈G/\¬ 200<=fl+U.length-1/\∃ m ub' cap',e= .returned (.tuple #[.int .i64 (fl+U.length),.int .i64 0])/\RevM w' B b ub' cap' mg mf (um++ [m]) (U++ [if g∈U.getLastD []then delS g (U.getLastD [])else insS g (U.getLastD [])]) fl G F/\w.heap.size<=m/\ (ub'=ub∨w.heap.size<=ub')/\Tch w w' fun k=>k=b∨k=ub)
theorem RevM.lastSet {m:Nat}{l:List Int}(h:RevM w B b ub cap mg mf (um++ [m]) (U++ [l]) fl G F):SetAt w m l:=by
 have hlen:um.length=U.length:=by simpa using h.len
 exact(h.sets U.length m l (by rw[List.getElem?_append_right (by omega)]; simp[hlen]) (by simp)).2
theorem Tch.new {w w' w'':World}{T:Nat->Prop}{m:Nat}(h:Tch w w' T)(h':w'.mapTurned w'' m)(hm:w.heap.size<=m):Tch w w'' T:=h.trans' (Tch.map h') (fun k _ x=>x) (fun k hk e=>by omega)
set_option maxRecDepth 100000 in
theorem Tf7 (h:RevM w B b ub cap mg mf um U fl G F)(hBw:B<=w.heap.size)(g:Int)(h0: -9223372036854775808<=g)(h1:g<=9223372036854775807) :
 Calls Tryz.prog 62 #[.pointer (some ⟨b,0,none⟩),.int .i64 g] w (TogPost w B b ub mg mf um U fl G F g):=by
 have hH:=T1t h g h0 h1
 by_cases hc:g∈G
 · rw[decide_eq_true hc]at hH
   have g01:=h.gset.2.2 g hc
   by_cases hf:200<=fl+U.length-1
   · have hN:=fun(w1:World) (hb:Below w.heap.size w w1)=>Tjj (h.below hb) (Nat.le_trans hBw hb.size) hf
     go_enter Tryz.func62,Tryz.ntmps62
     go_wp2_with (first | (go_at_call 108; refine hH.mono ?_; rintro e w1 ⟨rfl,hb⟩) | (go_at_call 98; refine(hN _ hb).mono ?_; rintro e w2 ⟨rfl,hb2⟩))
     go_ret2
     exact .inr (.inl ⟨hc,hf,rfl,hb.trans (hb2.mono hb.size)⟩)
   · have hN:=fun(w1:World) (hb:Below w.heap.size w w1)=>Tl6 (h.below hb) (Nat.le_trans hBw hb.size) hf
     obtain⟨L,hL⟩:∃ L,U.getLastD []=L:= ⟨_,rfl⟩
     simp only[hL]at hN
     have hh:=Tjw L g
     by_cases hl:g∈L
     · rw[decide_eq_true hl]at hh
       go_enter Tryz.func62,Tryz.ntmps62
       go_wp2_with (first | (go_at_call 108; refine hH.mono ?_; rintro e w1 ⟨rfl,hb⟩) | (go_at_call 98; refine(hN _ hb).mono ?_; rintro e w2 ⟨m,ub',cap',rfl,R2,hm,hub,ht⟩; have sM:=R2.lastSet; have hb3:Below w2.heap.size w2 (w2.alloc (.cells #[] 171)):= (Below.refl _ _).alloc (Nat.le_refl _) _; have R2':=R2.below hb3; have sM':=R2'.lastSet) | (at_lookup; refine wpList_lookup_own_unit _ rfl _ _ 161 rfl 3 171 Tbl Tryz.underlying161 (Tryz.zeroValue171 _) m 60 _ rfl sM.1 _ _ rfl (Tck g h0 h1) ?_) | (at_delete; refine wpList_delete_own _ rfl _ _ 161 3 rfl 171 Tbl Tryz.underlying161 unitElem m 60 _ rfl sM'.1 _ _ rfl (Tck g h0 h1) ?_; intro w3 hown hturn; have R3:=R2'.upL (Tx8 sM' hown) (fun k hk hne=>hturn.grown.block k hk (by simpa using hne))) | (go_at_call 59; refine(Tee R3).mono ?_; rintro e w4 ⟨rfl,hb4⟩))
       go_ret2
       have hbs:=hb.size
       refine .inr (.inr ⟨hc,by omega,m,ub',cap',?_,?_,by omega,by omega,?_⟩)
       · simp; omega
       · rw[hL,if_pos hl]; exact R3.below hb4
       · have q1:Tch w w2 fun k=>k=b∨k=ub:= (Tch.of hb).trans' ht (T:=fun _=>False) (fun k _ x=>x.elim) (fun k _ x=>x)
         have q2:Tch w (w2.alloc (.cells #[] 171)) fun k=>k=b∨k=ub:=q1.trans' (Tch.of hb3) (S:=fun _=>False) (fun k _ x=>x) (fun k _ x=>x.elim)
         exact(q2.new hturn (by omega)).trans' (Tch.of hb4) (S:=fun _=>False) (fun k _ x=>x) (fun k _ x=>x.elim)
     · rw[decide_eq_false hl]at hh
       go_enter Tryz.func62,Tryz.ntmps62
       go_wp2_with (first | (go_at_call 108; refine hH.mono ?_; rintro e w1 ⟨rfl,hb⟩) | (go_at_call 98; refine(hN _ hb).mono ?_; rintro e w2 ⟨m,ub',cap',rfl,R2,hm,hub,ht⟩; have sM:=R2.lastSet; have hb3:Below w2.heap.size w2 (w2.alloc (.cells #[] 171)):= (Below.refl _ _).alloc (Nat.le_refl _) _; have R2':=R2.below hb3; have sM':=R2'.lastSet) | (at_lookup; refine wpList_lookup_own_unit _ rfl _ _ 161 rfl 3 171 Tbl Tryz.underlying161 (Tryz.zeroValue171 _) m 60 _ rfl sM.1 _ _ rfl (Tck g h0 h1) ?_) | (at_mapUpdate; refine wpList_mapUpdate_in _ rfl _ _ _ 161 rfl 3 171 Tbl Tryz.underlying161 unitElem m 60 _ rfl sM'.1 (by decide) _ _ _ rfl rfl (Tck g h0 h1) (.agg []) [] unitElem_mk ?_; intro w3 hown hturn; have R3:=R2'.upL (Tpl sM' g01.1 g01.2 hown) (fun k hk hne=>hturn.grown.block k hk (by simpa using hne))) | (go_at_call 59; refine(Tee R3).mono ?_; rintro e w4 ⟨rfl,hb4⟩))
       go_ret2
       have hbs:=hb.size
       refine .inr (.inr ⟨hc,by omega,m,ub',cap',?_,?_,by omega,by omega,?_⟩)
       · simp; omega
       · rw[hL,if_neg hl]; exact R3.below hb4
       · have q1:Tch w w2 fun k=>k=b∨k=ub:= (Tch.of hb).trans' ht (T:=fun _=>False) (fun k _ x=>x.elim) (fun k _ x=>x)
         have q2:Tch w (w2.alloc (.cells #[] 171)) fun k=>k=b∨k=ub:=q1.trans' (Tch.of hb3) (S:=fun _=>False) (fun k _ x=>x) (fun k _ x=>x.elim)
         exact(q2.new hturn (by omega)).trans' (Tch.of hb4) (S:=fun _=>False) (fun k _ x=>x) (fun k _ x=>x.elim)
 · rw[decide_eq_false hc]at hH
   go_enter Tryz.func62,Tryz.ntmps62
   go_wp2_with (go_at_call 108; refine hH.mono ?_; rintro e w1 ⟨rfl,hb⟩)
   go_ret2
   exact .inl ⟨hc,rfl,hb⟩
end
end Go.Proofs.YtjpibniecllafaaGreat.AM
end
