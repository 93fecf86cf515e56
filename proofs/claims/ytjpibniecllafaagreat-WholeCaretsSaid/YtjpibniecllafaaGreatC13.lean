/- Made by pack.py: AR32, AR33, AR34, RE5, AR35, AR36, AR37, AR38, RE6, AR39, AR40, RF1, VP3, VP4, VD0, RE10, VM1, VM2, VM3, RE7, RE8, RE9, VM4, VM4a, VM4b, VM4c, VM4d, VM4e, VM4f, VM5, VM6, VM7, VP1, VD1, VD2, VP2, VP5, VP6, VP7, RC1. No condition but what each says. -/
import Derived.Test.YtjpibniecllafaaGreatC12
import Derived.Test.YtjpibniecllafaaGreatC11
import Derived.Test.YtjpibniecllafaaGreatC10
set_option linter.unusedSimpArgs false
set_option linter.unusedVariables false
set_option maxHeartbeats 16000000
section
namespace Go.Proofs.YtjpibniecllafaaGreat.AM
open Go Go.Proofs.YtjpibniecllafaaGreat.U
variable {cp:List PV->Option Ret}
def mrg (now gr rk:Int)(z:List At):List Int->List Ch->Nat->List At
 | s::sp,x::c,k=> (z.drop k).take (s.toNat-k)++newAts (L x.s) now gr rk++mrg now gr rk z sp c s.toNat
 | _,_,k=>z.drop k
def Up (n:Nat):List Int->Nat->Prop
 | [],k=>k<=n
 | s::sp,k=>0<=s/\k<=s.toNat/\s.toNat<=n/\Up n sp s.toNat
theorem T2g (now gr rk:Int)(z:List At)(c:List Ch)(sp:List Int)(hsp:sp.length=c.length)(hz:z.length<1000000)(hc8:c.length<=8)(hcs:∀ x∈c,x.s.size<1000000):∀(m i k:Nat) (acc:List At) (f1 f2:Bool),m+i=c.length->Up z.length (sp.drop i) k->k<=z.length->acc.length<=2000000*i ->
 ∃(acc':List At) (k':Nat) (f3 f4:Bool),k'<=z.length/\acc'.length<=2000000*c.length/\acc'++z.drop k'=acc++mrg now gr rk z (sp.drop i) (c.drop i) k /\
 Code (EX cp) L_edit_Upon_2 ⟨[(4,.p (pi now)),(5,.p (pi gr)),(6,.p (pi rk)),(15,.ms 15 0 c.length),(16,.ms 16 0 acc.length),(20,.ms 20 0 z.length),(22,.p (pi k)),(91,.p (.sl 3 (chs c))),(92,.p (pi c.length)),(93,.p (pi i))],[(15,.row 3 1 f1 (ints sp)),(16,.row 62 5 false (ats acc)),(20,.row 62 5 f2 (ats z))]⟩ =
  some (.ex 4,⟨[(4,.p (pi now)),(5,.p (pi gr)),(6,.p (pi rk)),(15,.ms 15 0 c.length),(16,.ms 16 0 acc'.length),(20,.ms 20 0 z.length),(22,.p (pi k')),(91,.p (.sl 3 (chs c))),(92,.p (pi c.length)),(93,.p (pi c.length)),(94,.p (pb false))],[(15,.row 3 1 f3 (ints sp)),(16,.row 62 5 false (ats acc')),(20,.row 62 5 f4 (ats z))]⟩):=by
 intro m
 induction m with
 | zero =>
  intro i k acc f1 f2 hi hup hk ha
  have:i=c.length:=by omega
  subst this
  refine⟨acc,k,f1,f2,hk,ha,?_,?_⟩
  · rw[List.drop_length,← hsp,List.drop_length,mrg]
    intro _ _ _ _ h _; simp at h
  · rw[L_edit_Upon_2,Taf]
    simp
 | succ m ih =>
  intro i k acc f1 f2 hi hup hk ha
  have h1:i<c.length:=by omega
  have h2:i<sp.length:=by omega
  have hg:=Tdd c i h1
  have hgs:=Tf3 sp i h2
  have hxs:=hcs c[i] (List.getElem_mem h1)
  rw[List.drop_eq_getElem_cons h2]at hup
  rw[List.drop_eq_getElem_cons h1,List.drop_eq_getElem_cons h2,mrg]
  obtain⟨u0,u1,u2,u3⟩:=hup
  have hp:=atomPut (cp:=cp) [] 0 c[i].s now gr rk (by simp) (by simp) (by omega)
  rw[Tx0,T1m]at hp
  have hnl: (newAts (L c[i].s) now gr rk).length<=c[i].s.size:=by
   rw[Ted]
   have:=Tda (L c[i].s); rw[L_len]at this; exact this
  generalize c[i]=x at *
  generalize sp[i]=s at *
  obtain⟨t,rfl⟩:∃ t:Nat,s= (t:Int):= ⟨s.toNat,by omega⟩
  rw[Int.toNat_natCast]at *
  have hpv:x.pv= [pi x.f,pi x.t,.sc (.string x.s)]:=rfl
  rw[hpv]at hg
  generalize newAts (L x.s) now gr rk=nw at *
  have hml: ((z.drop k).take (t-k)).length=t-k:=by rw[List.length_take,List.length_drop]; omega
  obtain⟨acc',k',f3,f4,a1,a2,a3,a4⟩:=ih (i+1) t (acc++ (z.drop k).take (t-k)++nw) f1 f2 (by omega) u3 u2 (by simp only[List.length_append,hml]; omega)
  refine⟨acc',k',f3,f4,a1,a2,?_,?_⟩
  · rw[a3]; simp only[List.append_assoc]
  have e1: (ats z).drop k=ats (z.drop k):=by simp[ats,List.map_drop]
  have e2: (ats (z.drop k)).take (t-k)=ats ((z.drop k).take (t-k)):=by simp[ats,List.map_take]
  have e3:=Teb acc ((z.drop k).take (t-k))
  have e4:=Teb (acc++ (z.drop k).take (t-k)) nw
  have e5: (acc++ (z.drop k).take (t-k)).length=acc.length+ (t-k):=by rw[List.length_append,hml]
  have e6: (acc++ (z.drop k).take (t-k)++nw).length=acc.length+ (t-k)+nw.length:=by rw[List.length_append,e5]
  have e7:=Tkm nw
  rw[← a4,e6]
  generalize(z.drop k).take (t-k)=md at *
  generalize acc++md++nw=a3' at *
  generalize acc++md=a2' at *
  have hcap: (acc.length+ (t-k))*64<=maxBytes/\acc.length+ (t-k)<=9223372036854775807:=by unfold maxBytes; omega
  have hcap2: (acc.length+ (t-k)+nw.length)*64<=maxBytes/\acc.length+ (t-k)+nw.length<=9223372036854775807:=by unfold maxBytes; omega
  rw[L_edit_Upon_2,Taf]
  simp(disch:=omega)[h1,hg,hgs,hp,e1,e2,e3,e4,e5,e7,hml,hcap,hcap2,Taa,Tad,Tab,Taj,-getElem?_pos]
end Go.Proofs.YtjpibniecllafaaGreat.AM
end
section
namespace Go.Proofs.YtjpibniecllafaaGreat.AM
open Go Go.Proofs.YtjpibniecllafaaGreat.U
theorem Tyi (rev rank:Int):∀(l:List At) (a b:Nat),a<=b->a+skN rev rank (l.drop a)<=b+skN rev rank (l.drop b)
 | l, a, b,h=>by
  by_cases hb:a+skN rev rank (l.drop a)<=b
  · omega
  · have key:∀(d:Nat) (m:List At),d<=skN rev rank m->skN rev rank m=d+skN rev rank (m.drop d):=by
     intro d
     induction d with
     | zero=>intro m _; simp
     | succ d ih =>
      intro m hm
      cases m with
      | nil=>simp[skN]at hm
      | cons x m =>
       rw[skN]at hm ⊢
       by_cases hx:rev<x.rv/\x.rk<=rank
       · rw[if_pos hx]at hm ⊢
         rw[List.drop_succ_cons,ih m (by omega)]; omega
       · rw[if_neg hx]at hm; omega
    have:=key (b-a) (l.drop a) (by omega)
    rw[List.drop_drop,show a+ (b-a)=b by omega]at this
    omega
theorem Tpu (rev:Int)(u:List Int)(l:List At)(ns:List Int)(f g:Int)(h:f<=g):∀ i,atI rev u f l ns i<=atI rev u g l ns i
 | 0=>Nat.le_refl _
 | i +1=>by
  have ih:=Tpu rev u l ns f g h i
  have hle:=Tpq rev u f l ns i
  have hok:okAt rev u f l ns i=true->okAt rev u g l ns i=true:=by
   unfold okAt
   split
   · simp only[Bool.and_eq_true,decide_eq_true_eq]
     rintro⟨h1,h2⟩; exact⟨by omega,h2⟩
   · simp
  rw[atI,atI]
  by_cases c0:okAt rev u f l ns i=true
  · rw[if_pos c0,if_pos (hok c0)]; exact Nat.le_refl _
  · rw[if_neg c0]
    split<;> omega
theorem Tro (rev:Int)(u:List Int)(rank:Int)(l:List At)(ns:List Int)(f g:Int)(h:f<=g):spotF rev u rank l ns f<=spotF rev u rank l ns g:=by
 unfold spotF
 exact Tyi rev rank l _ _ (Tpu rev u l ns f g h _)
theorem Tpv (s:ByteArray)(rev:Int)(u:List Int)(rank:Int)(l:List At)(ns:List Int):∀(c:List Ch) (k:Int) (j:Nat),Chain s c k-> (∀ x∈c.head?,j<=spotF rev u rank l ns x.f)->j<=l.length->Up l.length (c.map fun x=> (spotF rev u rank l ns x.f:Int)) j
 | [],k,j,_,_,hj=>hj
 | a::c,k,j,hch,hh,hj=>by
  obtain⟨h0,h1,h2,h3,h4⟩:=hch
  have hs:=Tyg rev u rank l ns a.f
  refine⟨Int.natCast_nonneg _,?_,by rw[Int.toNat_natCast]; exact hs,?_⟩
  · rw[Int.toNat_natCast]; exact hh a (by simp)
  · rw[Int.toNat_natCast]
    refine Tpv s rev u rank l ns c a.t _ h4 (fun x hx=> ?_) hs
    refine Tro rev u rank l ns a.f x.f ?_
    have:=Tpr s c a.t h4 x (List.mem_of_mem_head? hx)
    omega
theorem Tuv (l:List At)(rev:Int)(u:List Int)(c:List Ch)(rank:Int)(h:chk (txtS rev u l) c=0):Up l.length (spotsF l rev u c rank) 0:=by
 unfold spotsF
 rw[if_pos h]
 exact Tpv _ rev u rank l _ c 0 0 (Tgv h).chain (fun _ _=>Nat.zero_le _) (Nat.zero_le _)
theorem Tjl (l:List At)(rev:Int)(u:List Int)(c:List Ch)(rank:Int)(h:chk (txtS rev u l) c=0): (spotsF l rev u c rank).length=c.length:=by
 unfold spotsF
 rw[if_pos h,List.length_map]
def cutI (now gr:Int)(l:List At)(i:Int):List At:=match l[i.toNat]? with
 | some a=>l.set i.toNat (cutAt a now gr)
 | none=>l
def cutIs (now gr:Int)(is:List Int)(l:List At):List At:=is.foldl (cutI now gr) l
theorem Tpw (now gr:Int):∀(bo:List Bool) (l:List At) (i:Nat),bo.length=l.length-> (∀ b,bo[i]?=some b->b=false)->cutZ now gr (bo.set i true) l=cutI now gr (cutZ now gr bo l) i
 | [],[],i,_,_=>by simp[cutZ,cutI]
 | b::bo,a::l,0,h,hb=>by
  have:=hb b rfl
  subst this
  show cutZ now gr (true::bo) (a::l)=_
  rw[cutZ,cutZ,if_pos rfl,if_neg (by simp)]
  rfl
 | b::bo,a::l,i+1,h,hb=>by
  have ih:=Tpw now gr bo l i (by simpa using h) (fun x hx=>hb x (by simpa using hx))
  rw[List.set_cons_succ,cutZ,cutZ,ih]
  unfold cutI
  have e: (((i+1:Nat):Int)).toNat=i+1:=by omega
  have e2: ((i:Nat):Int).toNat=i:=by omega
  rw[e,e2,List.getElem?_cons_succ]
  cases(cutZ now gr bo l)[i]?<;> rfl
theorem Tpx (now gr:Int)(l:List At):∀(is:List Int) (bo:List Bool),bo.length=l.length-> (∀ i∈is,0<=i)->is.Nodup-> (∀ i∈is,∀ b,bo[i.toNat]?=some b->b=false)->cutZ now gr (setB is bo) l=cutIs now gr is (cutZ now gr bo l)
 | [],bo,_,_,_,_=>rfl
 | i::is,bo,h,h0,hn,hb=>by
  obtain⟨h1,h2⟩:=List.nodup_cons.1 hn
  have hi:=h0 i (by simp)
  show cutZ now gr (setB is (bo.set i.toNat true)) l=cutIs now gr is (cutI now gr (cutZ now gr bo l) i)
  have hne:∀ x∈is,i.toNat≠x.toNat:=fun x hx e=>h1 (by have:=h0 x (by simp[hx]); rw[show i=x by omega]; exact hx)
  rw[Tpx now gr l is (bo.set i.toNat true) (by simpa using h) (fun x hx=>h0 x (by simp[hx])) h2 (fun x hx b hbx=>by
   rw[List.getElem?_set_ne (hne x hx)]at hbx
   exact hb x (by simp[hx]) b hbx)]
  rw[Tpw now gr bo l i.toNat h (hb i (by simp)),show((i.toNat:Nat):Int)=i by omega]
theorem Tjm (now gr:Int):∀(n:Nat) (l:List At),cutZ now gr (List.replicate n false) l=l
 | 0,l=>Tef now gr l
 | n+1,[]=>rfl
 | n+1,a::l=>by rw[List.replicate_succ,cutZ,if_neg (by simp),Tjm now gr n l]
theorem Th8 (rev:Int)(u:List Int)(c:List Ch):∀(l:List At) (ns:List Int) (k:Int),∀ i∈cutsI rev u c l ns k,k<=i/\i<k+l.length
 | [],_,_,i,h=>by simp[cutsI]at h
 | a::l,[],_,i,h=>by simp[cutsI]at h
 | a::l,n::ns,k,i,h=>by
  rw[cutsI]at h
  have ih:=Th8 rev u c l ns (k+1) i
  rw[List.length_cons]
  split at h
  · rcases List.mem_cons.1 h with rfl | h
    · omega
    · have:=ih h; omega
  · have:=ih h; omega
theorem Th9 (rev:Int)(u:List Int)(c:List Ch):∀(l:List At) (ns:List Int) (k:Int),(cutsI rev u c l ns k).Nodup
 | [],_,_=>by simp[cutsI]
 | a::l,[],_=>by simp[cutsI]
 | a::l,n::ns,k=>by
  rw[cutsI]
  have ih:=Th9 rev u c l ns (k+1)
  split
  · refine List.nodup_cons.2 ⟨fun h=> ?_,ih⟩
    have:= (Th8 rev u c l ns (k+1) k h).1
    omega
  · exact ih
theorem Tia (l:List At)(rev:Int)(u:List Int)(c:List Ch):∀ i∈cutsF l rev u c,0<=i/\i<l.length:=by
 intro i hi
 unfold cutsF at hi
 split at hi
 · have:=Th8 rev u c l _ 0 i hi; omega
 · simp at hi
theorem Tns (l:List At)(rev:Int)(u:List Int)(c:List Ch): (cutsF l rev u c).Nodup:=by
 unfold cutsF
 split
 · exact Th9 rev u c l _ 0
 · simp
def cutU (l:List At)(rev:Int)(u:List Int)(c:List Ch)(now gr:Int):List At:=cutZ now gr (setB (cutsF l rev u c) (List.replicate l.length false)) l
theorem Tyj (l:List At)(rev:Int)(u:List Int)(c:List Ch)(now gr:Int): (cutU l rev u c now gr).length=l.length:=Tgw now gr _ l
theorem T2h (l:List At)(rev:Int)(u:List Int)(c:List Ch)(now gr:Int):cutU l rev u c now gr=cutIs now gr (cutsF l rev u c) l:=by
 unfold cutU
 rw[Tpx now gr l (cutsF l rev u c) _ (by simp) (fun i hi=> (Tia l rev u c i hi).1) (Tns l rev u c) (fun i hi b hb=>by
  have h:=Tia l rev u c i hi
  rw[List.getElem?_replicate]at hb
  split at hb
  · exact(oIj hb).symm
  · simp at hb),Tjm]
def uponF (l:List At)(rev:Int)(u:List Int)(c:List Ch)(now gr rk:Int):List At :=
 if chk (txtS rev u l) c=0 then mrg now gr rk (cutU l rev u c now gr) (spotsF l rev u c rk) c 0 else l
end Go.Proofs.YtjpibniecllafaaGreat.AM
end
section
namespace Go.Proofs.YtjpibniecllafaaGreat.AM
open Go Go.Proofs.YtjpibniecllafaaGreat.U
variable {cp:List PV->Option Ret}
theorem Tnt (n:Nat):List.replicate n [pb false]=bools (List.replicate n false):=by simp[bools]
theorem editUpon (l:List At)(rev:Int)(u:List Int)(c:List Ch)(now gr rk:Int)(hf:Fit2 l)(hl:l.length<1000000)(hlc:∀ a∈l,a.cuts.length<1000000)(hu:u.length<=9223372036854775807)(hcl:c.length<=9223372036854775807)(hcs:∀ x∈c,x.s.size<1000000) :
 Run (EX cp) 55 [.sl 5 (ats l),pi rev,.sl 1 (ints u),.sl 3 (chs c),pi now,pi gr,pi rk]=some (.own 62 5 (ats (uponF l rev u c now gr rk))):=by
 have hcs2:∀ x∈c,x.s.size<1099511627776:=fun x hx=>by have:=hcs x hx; omega
 have d1:=atomText (cp:=cp) l rev u hf.fit hu
 have d2:=editCheck (cp:=cp) (txtS rev u l) c (hf.txt rev u) hcl hcs2
 have d3:=editSpots (cp:=cp) l rev u c rk hf hu hcl hcs2
 have d4:=editCuts (cp:=cp) l rev u c hf hu hcl hcs2
 have d5:=atomCopy (cp:=cp) l (by omega) (fun a ha=>by have:=hlc a ha; omega)
 rw[Tah _ A_edit_Upon _ rfl rfl rfl]
 unfold uponF
 by_cases c0:chk (txtS rev u l) c=0
 case neg =>
  rw[if_neg c0]
  simp(disch:=omega)[A_edit_Upon,d1,d2,d3,d5,c0,Taa,Tad]
 rw[if_pos c0]
 rw[c0]at d2
 have h8:= (Tgv c0).len
 have hup:=Tuv l rev u c rk c0
 have hsl:=Tjl l rev u c rk c0
 have hcm:=Tia l rev u c
 have hcn: (cutsF l rev u c).length<=l.length:=by
  unfold cutsF; rw[if_pos c0]; exact Tma rev u c l _ 0
 have hzl:=Tyj l rev u c now gr
 unfold cutU at *
 generalize spotsF l rev u c rk=sp at *
 generalize cutsF l rev u c=cu at *
 have hbl: (setB cu (List.replicate l.length false)).length=l.length:=by rw[Tyh]; simp
 have l0:=T2e (cp:=cp) (ats l) (chs c) now gr rk sp cu (by omega) l.length [] cu.length 0 (List.replicate l.length false) (by omega) (by simpa using hcm) (by simp; omega)
 rw[List.drop_zero,show((0:Nat):Int)=0 from rfl,List.length_replicate,← Tnt]at l0
 have l1:=T2f (cp:=cp) (chs c) now gr rk sp (setB cu (List.replicate l.length false)) l hbl (by omega) (fun a ha=>by have:=hlc a ha; omega) l.length 0 (by omega)
 rw[List.take_zero,Tef,show((0:Nat):Int)=0 from rfl]at l1
 generalize setB cu (List.replicate l.length false)=bo at *
 generalize cutZ now gr bo l=z at *
 obtain⟨acc,k,f3,f4,a1,a2,a3,l2⟩:=T2g (cp:=cp) now gr rk z c sp hsl (by omega) h8 hcs c.length 0 0 [] false true (by omega) (by rw[List.drop_zero,hzl]; exact hup) (by omega) (by simp)
 rw[show((0:Nat):Int)=0 from rfl,show ats []= []from rfl,show([]:List At).length=0 from rfl,hzl]at l2
 rw[hsl]at l0 l1
 rw[List.drop_zero,List.drop_zero,List.nil_append]at a3
 rw[← a3]
 rw[hzl]at a1
 have e1: (ats z).drop k=ats (z.drop k):=by simp[ats,List.map_drop]
 have e2:=Teb acc (z.drop k)
 have e3: (ats (z.drop k)).take (l.length-k)=ats (z.drop k):=List.take_of_length_le (by simp; omega)
 have e4: (acc++z.drop k).length=acc.length+ (l.length-k):=by rw[List.length_append,List.length_drop,hzl]
 have e5:=Tkm (acc++z.drop k)
 rw[e4]at e5
 have hcap: (acc.length+ (l.length-k))*64<=maxBytes/\acc.length+ (l.length-k)<=9223372036854775807:=by unfold maxBytes; omega
 have hcap2:l.length*64<=maxBytes/\l.length<=9223372036854775807:=by unfold maxBytes; omega
 have hcap3:l.length<=maxBytes:=by unfold maxBytes; omega
 have hdl: (dats l).length=l.length:=Txt l
 simp(disch:=omega)[A_edit_Upon,a1,hsl,d1,d2,d3,d4,d5,c0,l0,l1,l2,hzl,hcap,hcap2,hcap3,e1,e2,e3,e4,e5,Taa,Tad]
end Go.Proofs.YtjpibniecllafaaGreat.AM
end
section
namespace Go.Proofs.YtjpibniecllafaaGreat.AM
open Go Go.Proofs.YtjpibniecllafaaGreat.U
theorem Tyk (l:List At)(rev:Int)(u:List Int)(c:List Ch)(now gr rk:Int):uponF l rev u c now gr rk=mrg now gr rk (cutIs now gr (cutsF l rev u c) l) (spotsF l rev u c rk) c 0:=by
 unfold uponF
 by_cases c0:chk (txtS rev u l) c=0
 · rw[if_pos c0,T2h]
 · rw[if_neg c0]
   unfold cutsF spotsF
   rw[if_neg c0,if_neg c0]
   cases c<;> rfl
theorem Tnu (now gr rk:Int)(z:List At):∀(sp:List Int) (c:List Ch) (k:Nat),∀ a∈mrg now gr rk z sp c k,a∈z∨∃ x∈c,a∈newAts (L x.s) now gr rk
 | [],c,k,a,h=>by
  have:mrg now gr rk z [] c k=z.drop k:=by cases c<;> rfl
  rw[this]at h; exact Or.inl (List.mem_of_mem_drop h)
 | s::sp,[],k,a,h=>Or.inl (List.mem_of_mem_drop h)
 | s::sp,x::c,k,a,h=>by
  rw[mrg]at h
  simp only[List.mem_append]at h
  rcases h with(h | h) | h
  · exact Or.inl (List.mem_of_mem_drop (List.mem_of_mem_take h))
  · exact Or.inr ⟨x,by simp,h⟩
  · rcases Tnu now gr rk z sp c _ a h with h | ⟨y,hy,h⟩
    · exact Or.inl h
    · exact Or.inr ⟨y,by simp[hy],h⟩
theorem Tev {s:List UInt8}{rv gr rk:Int}{a:At}(h:a∈newAts s rv gr rk):a.cuts= []/\a.rv=rv/\a.gr=gr/\a.rk=rk/\1<=a.txt.size/\a.txt.size<=4:=by
 obtain⟨v,hv,rfl⟩:=List.mem_map.1 h
 have: (chS v).size= (enc v).length:=Th2 _
 have h2:=Tb7 v
 refine⟨rfl,rfl,rfl,rfl,?_,?_⟩
 · show 1<= (chS v).size; omega
 · show(chS v).size<=4; omega
theorem Tuw (m:Nat):∀ z:List At,(∀ a∈z,a.txt.size<=m)->sumT z<=m*z.length:=by
 intro z
 induction z with
 | nil=>intro _; simp[sumT]
 | cons a z ih =>
  intro h
  rw[Td3,List.length_cons,Nat.mul_succ]
  have h1:=h a (by simp)
  have h2:=ih fun b hb=>h b (by simp[hb])
  omega
theorem Tux (l:List At)(hl:l.length<1000000)(ht:∀ a∈l,a.txt.size<=1000)(hc:∀ a∈l,a.cuts.length<1000000):Fit2 l :=
 ⟨⟨by omega,by have:=Tuw 1000 l ht; omega,fun a ha=>by have:=hc a ha; omega⟩,by have:=Tuw 1000 l ht; omega⟩
def tl (l:List At):List UInt8:= (l.map fun a=>a.txt).flatMap L
theorem Tuy (a b:List At):tl (a++b)=tl a++tl b:=by simp[tl]
theorem Tfg (rev:Int)(u:List Int)(l:List At)(h:∀ a∈l,a.vis rev u=true):txtF rev u l=tl l:=Tpf rev u l h
theorem L_chS (v:Int):L (chS v)=enc v:=L_mk _
def okTx (l:List At):Prop:=∀ a∈l,∃ v,sc v/\a.txt=chS v
theorem okTx.vs:∀ {l:List At},okTx l->∃ vs:List Int,(∀ v∈vs,sc v)/\ (l.map fun a=>a.txt)=vs.map chS
 | [],_=> ⟨[],by simp,rfl⟩
 | a::l,h=>by
  obtain⟨v,h1,h2⟩:=h a (by simp)
  obtain⟨vs,h3,h4⟩:=okTx.vs (l:=l) fun b hb=>h b (by simp[hb])
  exact⟨v::vs,by simpa[h1]using h3,by rw[List.map_cons,List.map_cons,h2,h4]⟩
theorem Tku (vs:List Int): (vs.map chS).flatMap L=encs vs:=by
 induction vs with
 | nil=>rfl
 | cons v vs ih=>rw[List.map_cons,List.flatMap_cons,ih,L_chS]; rfl
theorem Tfh (s:List UInt8)(rv gr rk:Int):okTx (newAts s rv gr rk):=by
 intro a h
 obtain⟨v,hv,rfl⟩:=List.mem_map.1 h
 exact⟨v,Tcs _ v hv,rfl⟩
theorem Tuz (s:List UInt8)(rv gr rk:Int):tl (newAts s rv gr rk)=clean s:=by
 unfold tl; rw[Tni,Tuc]
theorem okTx.size {l:List At}(h:okTx l):∀ a∈l,1<=a.txt.size/\a.txt.size<=4:=by
 intro a ha
 obtain⟨v,_,h2⟩:=h a ha
 rw[h2]
 have: (chS v).size= (enc v).length:=Th2 _
 rw[this]; exact Tb7 v
theorem Tyl (l:List At)(h:okTx l)(e:Nat)(ha:valid ((tl l).take e)=true):∃ k,k<=l.length/\tl (l.take k)= (tl l).take e/\tl (l.drop k)= (tl l).drop e:=by
 obtain⟨vs,h1,h2⟩:=h.vs
 have hlen:l.length=vs.length:=by have:=congrArg List.length h2; simpa using this
 have ht:tl l=encs vs:=by unfold tl; rw[h2,Tku]
 rw[ht]at ha ⊢
 have hp:points ((encs vs).take e++ (encs vs).drop e)=points ((encs vs).take e)++points ((encs vs).drop e):=Tkg ha _
 rw[List.take_append_drop,Td0 vs h1]at hp
 have htk:∀ k,tl (l.take k)=encs (vs.take k):=fun k=>by unfold tl; rw[List.map_take,h2,← List.map_take,Tku]
 obtain⟨ps,qs,hv,he⟩:∃ ps qs,vs=ps++qs/\encs ps= (encs vs).take e:= ⟨_,_,hp,Tbd _ ha⟩
 have hk:vs.take ps.length=ps:=by rw[hv,List.take_left]
 refine⟨ps.length,?_,?_,?_⟩
 · rw[hlen,hv,List.length_append]; omega
 · rw[htk,hk,he]
 · have h5:=Tuy (l.take ps.length) (l.drop ps.length)
   rw[List.take_append_drop,ht,htk,hk,he]at h5
   have h6:= (List.take_append_drop e (encs vs)).symm
   rw[h5]at h6
   have h7: (encs vs).take e++tl (l.drop ps.length)= (encs vs).take e++ (encs vs).drop e:=by
    rw[List.take_append_drop]; exact h5.symm
   exact List.append_cancel_left h7
theorem Tym (rev:Int)(u:List Int)(l:List At)(h:∀ a∈l,a.vis rev u=true/\1<=a.txt.size)(hl:l≠ []):1<= (txtF rev u l).length:=by
 cases l with
 | nil=>exact absurd rfl hl
 | cons a l =>
  obtain⟨h1,h2⟩:=h a (by simp)
  rw[txtF,if_pos h1,List.length_append,L_len]; omega
theorem Tu0 (rev:Int)(u:List Int)(l1 l2:List At)(h:∀ a∈l1,a.vis rev u=true/\1<=a.txt.size):∀ i,i<= (l1++l2).length->atI rev u ((txtF rev u l1).length:Nat) (l1++l2) (places rev u (l1++l2)) i=min i l1.length:=by
 intro i
 induction i with
 | zero=>intro _; rw[atI]; omega
 | succ i ih =>
  intro hi
  have ih:=ih (by omega)
  have hp:=Tt5 rev u (l1++l2) i (by omega)
  have hi':i< (l1++l2).length:=by omega
  have hok:okAt rev u ((txtF rev u l1).length:Nat) (l1++l2) (places rev u (l1++l2)) i= (decide ((((txtF rev u ((l1++l2).take i)).length:Nat):Int)< ((txtF rev u l1).length:Nat))&& ((l1++l2)[i]).vis rev u):=by
   unfold okAt
   rw[hp,List.getElem?_eq_getElem hi']
  rw[atI,ih]
  rcases Nat.lt_or_ge i l1.length with c | c
  · have e1: (l1++l2).take i=l1.take i:=List.take_append_of_le_length (by omega)
    have e2: (l1++l2)[i]=l1[i]:=List.getElem_append_left c
    have e3:txtF rev u l1=txtF rev u (l1.take i)++txtF rev u (l1.drop i):=by rw[← Tbj,List.take_append_drop]
    have e4:=Tym rev u (l1.drop i) (fun a ha=>h a (List.mem_of_mem_drop ha)) (by
     intro e; have:=congrArg List.length e; rw[List.length_drop]at this; simp at this; omega)
    have e5: (txtF rev u (l1.take i)).length< (txtF rev u l1).length:=by rw[e3,List.length_append]; omega
    rw[e1,e2,(h _ (List.getElem_mem c)).1,decide_eq_true (by omega),Bool.true_and]at hok
    rw[if_pos hok]
    omega
  · have e1: (l1++l2).take i=l1++l2.take (i-l1.length):=by rw[List.take_append,List.take_of_length_le c]
    have e5:¬ (((txtF rev u (l1++l2.take (i-l1.length))).length:Nat):Int)< ((txtF rev u l1).length:Nat):=by rw[Tbj,List.length_append]; omega
    rw[e1,decide_eq_false e5,Bool.false_and]at hok
    rw[if_neg (by rw[hok]; simp)]
    omega
theorem Tib (rev:Int)(u:List Int)(rank:Int)(l1 l2:List At)(h:∀ a∈l1,a.vis rev u=true/\1<=a.txt.size)(fr:Int)(hf:fr= ((txtF rev u l1).length:Nat)) :
 spotF rev u rank (l1++l2) (places rev u (l1++l2)) fr=l1.length+skN rev rank l2:=by
 subst hf
 unfold spotF
 rw[Tu0 rev u l1 l2 h _ (Nat.le_refl _)]
 have:min (l1++l2).length l1.length=l1.length:=by rw[List.length_append]; omega
 rw[this,List.drop_left]
theorem Tyn (rev rank:Int)(l:List At)(h:∀ a∈l,a.rv<=rev):skN rev rank l=0:=by
 cases l with
 | nil=>rfl
 | cons a l=>rw[skN,if_neg]; have:=h a (by simp); omega
theorem T3x {a:At}{rev:Int}{u:List Int}(h:a.vis rev u=true):a.rv<=rev:=by
 unfold At.vis at h
 simp only[Bool.and_eq_true,decide_eq_true_eq]at h
 exact h.1.1
theorem Tu1 (rev:Int)(u:List Int)(rank:Int)(l:List At)(hv:∀ a∈l,a.vis rev u=true)(ho:okTx l)(e:Int)(he:edge (txtS rev u l) e=true) :
 spotF rev u rank l (places rev u l) e<=l.length/\tl (l.take (spotF rev u rank l (places rev u l) e))= (tl l).take e.toNat/\tl (l.drop (spotF rev u rank l (places rev u l) e))= (tl l).drop e.toNat:=by
 obtain⟨h0,h1,h2,h3⟩:=Trh he
 have hL:L (txtS rev u l)=tl l:=by rw[← Tfg rev u l hv]; exact L_mk _
 rw[hL]at h2
 rw[← L_len,hL]at h1
 obtain⟨k,hk,e1,e2⟩:=Tyl l ho e.toNat h2
 have hs:spotF rev u rank (l.take k++l.drop k) (places rev u (l.take k++l.drop k)) e= (l.take k).length+skN rev rank (l.drop k) :=
  Tib rev u rank (l.take k) (l.drop k) (fun a ha=> ⟨hv a (List.mem_of_mem_take ha),(ho.size a (List.mem_of_mem_take ha)).1⟩) e (by
   rw[Tfg rev u (l.take k) fun a ha=>hv a (List.mem_of_mem_take ha),e1,List.length_take]; omega)
 rw[List.take_append_drop,Tyn rev rank _ fun a ha=>T3x (hv a (List.mem_of_mem_drop ha)),List.length_take,Nat.add_zero,Nat.min_eq_left hk]at hs
 rw[hs]
 exact⟨hk,e1,e2⟩
def zU (rev:Int)(u:List Int)(c:List Ch)(now gr:Int):List At->List Int->List At
 | a::l,n::ns=> (if a.vis rev u=true/\c.any (hitB n)=true then cutAt a now gr else a)::zU rev u c now gr l ns
 | l,_=>l
theorem Tyo (now gr:Int)(p:List At)(a:At)(l:List At):cutI now gr (p++a::l) (p.length:Nat)=p++cutAt a now gr::l:=by
 unfold cutI
 rw[Int.toNat_natCast,List.getElem?_append_right (Nat.le_refl _),Nat.sub_self,List.getElem?_cons_zero]
 simp[List.set_append_right]
theorem Tkv (rev:Int)(u:List Int)(c:List Ch)(now gr:Int):∀(l:List At) (ns:List Int) (p:List At),cutIs now gr (cutsI rev u c l ns (p.length:Nat)) (p++l)=p++zU rev u c now gr l ns
 | [],ns,p=>by cases ns<;> rfl
 | a::l,[],p=>rfl
 | a::l,n::ns,p=>by
  rw[cutsI,zU]
  by_cases h:a.vis rev u=true/\c.any (hitB n)=true
  · rw[if_pos h,if_pos h]
    show cutIs now gr (cutsI rev u c l ns ((p.length:Nat)+1)) (cutI now gr (p++a::l) (p.length:Nat))=_
    rw[Tyo]
    have ih:=Tkv rev u c now gr l ns (p++ [cutAt a now gr])
    rw[List.length_append]at ih
    simpa using ih
  · rw[if_neg h,if_neg h]
    have ih:=Tkv rev u c now gr l ns (p++ [a])
    rw[List.length_append]at ih
    simpa using ih
theorem Tgx (l:List At)(rev:Int)(u:List Int)(c:List Ch)(now gr rk:Int)(h:chk (txtS rev u l) c=0):uponF l rev u c now gr rk=mrg now gr rk (zU rev u c now gr l (places rev u l)) (spotsF l rev u c rk) c 0:=by
 rw[Tyk]
 unfold cutsF
 rw[if_pos h]
 have:=Tkv rev u c now gr l (places rev u l) []
 rw[List.nil_append,List.nil_append]at this
 rw[← this]; rfl
theorem Tnv (rev:Int)(u:List Int)(c:List Ch)(now gr:Int)(hc:∀ x∈c,x.t<=x.f):∀(l:List At) (ns:List Int),zU rev u c now gr l ns=l
 | [],ns=>by cases ns<;> rfl
 | a::l,[]=>rfl
 | a::l,n::ns=>by
  have:c.any (hitB n)=false:=by
   rw[List.any_eq_false]
   intro x hx
   have:=hc x hx
   unfold hitB
   simp; omega
  rw[zU,if_neg (by rw[this]; simp),Tnv rev u c now gr hc l ns]
theorem Tzp (rev:Int)(u:List Int)(c:List Ch)(now gr:Int):∀(l:List At) (ns:List Int),∀ b∈zU rev u c now gr l ns,∃ a∈l,b=a∨b=cutAt a now gr
 | [],ns,b,h=>by cases ns<;> simp[zU]at h
 | a::l,[],b,h=> ⟨b,h,Or.inl rfl⟩
 | a::l,n::ns,b,h=>by
  rw[zU]at h
  rcases List.mem_cons.1 h with rfl | h
  · refine⟨a,by simp,?_⟩
    split
    · exact Or.inr rfl
    · exact Or.inl rfl
  · obtain⟨x,h1,h2⟩:=Tzp rev u c now gr l ns b h
    exact⟨x,by simp[h1],h2⟩
end Go.Proofs.YtjpibniecllafaaGreat.AM
end
section
namespace Go.Proofs.YtjpibniecllafaaGreat.AM
open Go Go.Proofs.YtjpibniecllafaaGreat.U
structure Eng where
 l:List At
 U:List (List Int)
 fl:Int
 G:List Int
 F:List Int
namespace Eng
def ut (E:Eng)(r:Int):List Int:=undU E.U E.fl r
def textAt (E:Eng)(r:Int):ByteArray:=txtS r (E.ut r) E.l
def txt (E:Eng):ByteArray:=headT E.l E.U E.fl
abbrev hp (E:Eng):List (Nat×Ob):=engH (ats E.l) E.U E.fl E.G E.F
abbrev hp2 (E E':Eng):List (Nat×Ob):=engH2 (ats E'.l) E.U E.fl E.G E.F E'.U E'.fl E'.G E'.F
def upon (E:Eng)(b g rk:Int)(c:List Ch):List At:=uponF E.l b (E.ut b) c (E.fl+E.U.length) g rk
def edit (E:Eng)(b g rk:Int)(c:List Ch):Int×Int×Eng :=
 if ¬ (E.fl<=b/\b<=E.fl+E.U.length-1)then(0,190,E)
 else if chk (E.textAt b) c≠0 then(0,chk (E.textAt b) c,E)
 else if g∈E.F∨g<0∨60<=g then(0,210,E)
 else if 200<=E.fl+E.U.length-1 then(0,70,E)
 else if rk<0∨1000000<rk then(0,10,E)
 else if 4000< (E.upon b g rk c).length then(0,70,E)
 else if 20000< (headT (E.upon b g rk c) (E.U++ [lastS E.U]) E.fl).size then(0,13,E)
 else(E.fl+E.U.length,0,⟨E.upon b g rk c,E.U++ [lastS E.U],E.fl,insS g E.G,E.F⟩)
def toggle (E:Eng)(g:Int):Int×Int×Eng :=
 if g∉E.G then(0,210,E)
 else if 200<=E.fl+E.U.length-1 then(0,70,E)
 else if 20000< (headT E.l (togU E.U g) E.fl).size then(0,13,E)
 else(E.fl+E.U.length,0,⟨E.l,togU E.U g,E.fl,E.G,E.F⟩)
def new:Eng:= ⟨[],[[]],0,[],[]⟩
end Eng
structure EOk (E:Eng):Prop where
 len:E.l.length<=4000
 tx:okTx E.l
 cuts:∀ a∈E.l,(a.cuts.length:Int)<=E.fl+E.U.length-1
 u1:1<=E.U.length
 fl0:0<=E.fl
 hd:E.fl+E.U.length-1<=200
 us:∀ s∈E.U,(s.length:Int)<=E.fl+E.U.length-1
theorem EOk.new:EOk Eng.new:= ⟨by simp[Eng.new],fun a h=>by simp[Eng.new]at h,fun a h=>by simp[Eng.new]at h,by simp[Eng.new],by simp[Eng.new],by simp[Eng.new],fun s h=>by simp[Eng.new]at h; subst h; simp[Eng.new]⟩
theorem Typ (U:List (List Int))(fl r:Int):undU U fl r= []∨undU U fl r∈U:=by
 unfold undU
 split
 · rename_i h
   have: (r-fl).toNat<U.length:=by omega
   right
   rw[List.getD_eq_getElem?_getD,List.getElem?_eq_getElem this]
   exact List.getElem_mem this
 · exact Or.inl rfl
theorem Tic (U:List (List Int))(h:1<=U.length):lastS U∈U:=by
 have:U≠ []:=fun e=>by rw[e]at h; simp at h
 unfold lastS
 rw[List.getLastD_eq_getLast?,List.getLast?_eq_some_getLast this]
 exact List.getLast_mem this
theorem Tpy (g:Int):∀ s:List Int,(insS g s).length<=s.length+1
 | []=>by simp[insS]
 | x::s=>by
  have:=Tpy g s
  unfold insS
  split
  · simp
  · split<;> simp<;> omega
namespace EOk
variable {E:Eng}(H:EOk E)
include H
theorem ul (r:Int): (undU E.U E.fl r).length<=9223372036854775807:=by
 have:=H.hd
 rcases Typ E.U E.fl r with h | h
 · rw[h]; simp
 · have:=H.us _ h; omega
theorem cl:∀ a∈E.l,a.cuts.length<=200:=fun a ha=>by have:=H.cuts a ha; have:=H.hd; omega
theorem fit2:Fit2 E.l:=Tux E.l (by have:=H.len; omega) (fun a ha=>by have:=H.tx.size a ha; omega) (fun a ha=>by have:=H.cl a ha; omega)
end EOk
theorem okTx.mrg {now gr rk:Int}{z:List At}(hz:okTx z)(sp:List Int)(c:List Ch)(k:Nat):okTx (mrg now gr rk z sp c k):=by
 intro a ha
 rcases Tnu now gr rk z sp c k a ha with h | ⟨x,_,h⟩
 · exact hz a h
 · exact Tfh _ now gr rk a h
theorem Tpz (l:List At)(rev:Int)(u:List Int)(c:List Ch)(now gr rk:Int):∀ a∈uponF l rev u c now gr rk,(∃ b∈l,a=b∨a=cutAt b now gr)∨∃ x∈c,a∈newAts (L x.s) now gr rk:=by
 intro a ha
 by_cases c0:chk (txtS rev u l) c=0
 · rw[Tgx l rev u c now gr rk c0]at ha
   rcases Tnu now gr rk _ _ c 0 a ha with h | h
   · exact Or.inl (Tzp rev u c now gr l _ a h)
   · exact Or.inr h
 · unfold uponF at ha
   rw[if_neg c0]at ha
   exact Or.inl ⟨a,ha,Or.inl rfl⟩
theorem Tnw {l:List At}(h:okTx l)(rev:Int)(u:List Int)(c:List Ch)(now gr rk:Int):okTx (uponF l rev u c now gr rk):=by
 intro a ha
 rcases Tpz l rev u c now gr rk a ha with⟨b,hb,rfl | rfl⟩ | ⟨x,_,h⟩
 · exact h _ hb
 · exact h b hb
 · exact Tfh _ now gr rk a h
theorem Tmc (l:List At)(rev:Int)(u:List Int)(c:List Ch)(now gr rk:Int)(m:Int)(h0:0<=m)(h:∀ a∈l,(a.cuts.length:Int)<=m):∀ a∈uponF l rev u c now gr rk,(a.cuts.length:Int)<=m+1:=by
 intro a ha
 rcases Tpz l rev u c now gr rk a ha with⟨b,hb,rfl | rfl⟩ | ⟨x,_,hx⟩
 · have:=h _ hb; omega
 · have:=h b hb
   have e: (cutAt b now gr).cuts.length=b.cuts.length+1:=by simp[cutAt]
   omega
 · rw[(Tev hx).1]; simp; omega
theorem EOk.edit {E:Eng}(H:EOk E)(b g rk:Int)(c:List Ch):EOk (E.edit b g rk c).2.2:=by
 unfold Eng.edit
 repeat' split
 all_goals first | exact H | skip
 rename_i h1 h2 h3 h4 h5 h6 h7
 have hl:=Tic E.U H.u1
 have h0:=H.fl0
 have hu:=H.u1
 refine⟨by show(E.upon b g rk c).length<=4000; omega,Tnw H.tx _ _ _ _ _ _,?_,by simp,H.fl0,?_,?_⟩
 · intro a ha
   have:=Tmc E.l b (E.ut b) c (E.fl+E.U.length) g rk (E.fl+E.U.length-1) (by omega) H.cuts a ha
   simp only[List.length_append,List.length_singleton]
   omega
 · simp only[List.length_append,List.length_singleton]
   omega
 · intro s hs
   simp only[List.length_append,List.length_singleton]
   rcases List.mem_append.1 hs with h | h
   · have:=H.us s h; omega
   · rw[List.mem_singleton]at h
     subst h
     have:=H.us _ hl; omega
theorem EOk.toggle {E:Eng} (H:EOk E) (g:Int):EOk (E.toggle g).2.2:=by
 unfold Eng.toggle
 repeat' split
 all_goals first | exact H | skip
 rename_i h1 h2 h3
 have hl:=Tic E.U H.u1
 have h0:=H.fl0
 have hu:=H.u1
 have e: (togU E.U g).length=E.U.length+1:=by simp[togU]
 refine⟨H.len,H.tx,?_,?_,H.fl0,?_,?_⟩
 · intro a ha
   have:=H.cuts a ha
   show(a.cuts.length:Int)<=E.fl+ ((togU E.U g).length:Int)-1
   omega
 · show 1<= (togU E.U g).length; omega
 · show E.fl+ ((togU E.U g).length:Int)-1<=200
   omega
 · intro s hs
   show(s.length:Int)<=E.fl+ ((togU E.U g).length:Int)-1
   have hs':s∈togU E.U g:=hs
   unfold togU at hs'
   rcases List.mem_append.1 hs' with h | h
   · have:=H.us s h; omega
   · have h5:=H.us _ hl
     have h6: (s.length:Int)<= (lastS E.U).length+1:=by
      rw[List.mem_singleton]at h
      subst h
      split
      · have:=List.length_filter_le (fun x=>decide (x≠g)) (lastS E.U)
        unfold delS; omega
      · have:=Tpy g (lastS E.U); omega
     omega
end Go.Proofs.YtjpibniecllafaaGreat.AM
end
section
namespace Go.Proofs.YtjpibniecllafaaGreat.AM
open Go Go.Proofs.YtjpibniecllafaaGreat.U
section
variable (rev now gr rk:Int)(l:List At)(hv:∀ a∈l,a.vis rev []=true)(ho:okTx l)(hv2:∀ a∈l,a.vis now []=true)(C0:List Ch)
include hv
include ho
include hv2
end
end Go.Proofs.YtjpibniecllafaaGreat.AM
end
section
namespace Go.Proofs.YtjpibniecllafaaGreat.AM
open Go Go.Proofs.YtjpibniecllafaaGreat.U
theorem Tnx (t:ByteArray)(x:Ch)(hv:valid (L t)=true)(h0:0<=x.f)(h1:x.f<=x.t)(h2:x.t<=t.size)(he:edge t x.f=true)(he2:edge t x.t=true)(hx:valid (L x.s)=true)(hs:t.size<=10000)(hs2:x.s.size<=10000):chk t [x]=0:=by
 refine Tpo ⟨hv,by simp,by simp; omega,by simpa using⟨he,he2⟩,rfl,by simpa using hx,?_⟩
 have hA:∀ n:Int,lngA t n [x]=n+min (max (IntKind.wrap .i64 (x.t-x.f)) 0) t.size:=fun n=>rfl
 have hB:∀ n:Int,¬ n<x.s.size->lngB n [x]=some (n-x.s.size):=fun n hn=>by
  show(if n<x.s.size then none else lngB (n-x.s.size) [])=_
  rw[if_neg hn]; rfl
 unfold lng
 rw[hA,hB _ (by omega)]
 exact decide_eq_false (by omega)
theorem Tp0 (l:List At)(rev:Int)(u:List Int)(p:Int)(x:ByteArray)(now gr rk:Int)(h:chk (txtS rev u l) [⟨p,p,x⟩]=0)(k:Nat)(hk:spotF rev u rk l (places rev u l) p=k) :
 uponF l rev u [⟨p,p,x⟩] now gr rk=l.take k++newAts (L x) now gr rk++l.drop k:=by
 rw[Tgx l rev u _ now gr rk h,Tnv _ _ _ _ _ (by simp)]
 unfold spotsF
 rw[if_pos h,List.map_cons,List.map_nil,hk,mrg,mrg,Int.toNat_natCast,List.drop_zero,Nat.sub_zero]
 all_goals simp
theorem Eng.edit_good (E:Eng)(b g rk:Int)(c:List Ch)(l':List At)(hb:E.fl<=b/\b<=E.fl+E.U.length-1)(hk:chk (E.textAt b) c=0)(hg:g∉E.F/\0<=g/\g<60)(hn:E.fl+ (E.U.length:Int)<=200)(hr:0<=rk/\rk<=1000000)
 (hl:E.upon b g rk c=l') (h4:l'.length<=4000) (hs: (headT l' (E.U++ [lastS E.U]) E.fl).size<=20000):E.edit b g rk c= (E.fl+E.U.length,0,⟨l',E.U++ [lastS E.U],E.fl,insS g E.G,E.F⟩):=by
 unfold Eng.edit
 rw[if_neg (fun h=>h hb),if_neg (fun h=>h hk),if_neg (by rintro(h | h | h); exact hg.1 h; omega; omega),if_neg (by omega),if_neg (by omega),hl,if_neg (by omega),if_neg (by omega)]
theorem Eng.toggle_good (E:Eng)(g:Int)(hg:g∈E.G)(hn:E.fl+ (E.U.length:Int)<=200)(hs: (headT E.l (togU E.U g) E.fl).size<=20000):E.toggle g= (E.fl+E.U.length,0,⟨E.l,togU E.U g,E.fl,E.G,E.F⟩):=by
 unfold Eng.toggle
 rw[if_neg (fun h=>h hg),if_neg (by omega),if_neg (by omega)]
theorem Tfi (n:Nat)(fl r:Int):undU (List.replicate n []) fl r= []:=by
 unfold undU
 split
 · rw[List.getD_eq_getElem?_getD,List.getElem?_replicate]; split<;> rfl
 · rfl
theorem Td5 (n:Nat):lastS (List.replicate n [])= []:=by
 unfold lastS
 cases n with
 | zero=>rfl
 | succ n=>rw[List.replicate_succ',List.getLastD_concat]
theorem Tgy (n:Nat):List.replicate n ([]:List Int)++ [[]]=List.replicate (n+1) []:=by rw[List.replicate_succ']
theorem Tid (l:List At)(n:Nat):headT l (List.replicate n []) 0=txtS ((n:Int)-1) [] l:=by
 unfold headT
 rw[Tfi,List.length_replicate,Int.zero_add]
theorem Tie (rev:Int)(u:List Int):∀ l:List At,txtF rev u l=tl (l.filter fun a=>a.vis rev u)
 | []=>rfl
 | a::l=>by
  rw[txtF,Tie rev u l,List.filter_cons]
  cases h:a.vis rev u with
  | true=>simp only[if_true]; rfl
  | false=>simp
theorem Tgz {l:List At}(h:okTx l):valid (tl l)=true:=by
 obtain⟨vs,h1,h2⟩:=h.vs
 have ht:tl l=encs vs:=by unfold tl; rw[h2,Tku]
 rw[ht]; exact Thy vs h1
theorem Tu2 {l:List At}(h:okTx l)(rev:Int)(u:List Int):valid (L (txtS rev u l))=true:=by
 rw[show L (txtS rev u l)=txtF rev u l from L_mk _,Tie]
 exact Tgz fun a ha=>h a (List.mem_filter.1 ha).1
theorem Tjn (s:ByteArray)(now gr rk:Int)(hv:valid (L s)=true)(hs:s.size<=10000):chk (txtS 0 [] []) [⟨0,0,s⟩]=0/\uponF [] 0 [] [⟨0,0,s⟩] now gr rk=newAts (L s) now gr rk:=by
 have h0:txtS 0 [] []=ByteArray.empty:=rfl
 have e0:edge ByteArray.empty 0=true:=by
  have:=Tpa ByteArray.empty
  rw[show L ByteArray.empty= []from rfl,Ta0]at this
  exact this
 have c0:chk (txtS 0 [] []) [⟨0,0,s⟩]=0:=by
  rw[h0]
  exact Tnx _ _ (by rw[show L ByteArray.empty= []from rfl]; exact Ta0) (Int.le_refl _) (Int.le_refl _) (by simp) e0 e0 hv (by simp) hs
 refine⟨c0,?_⟩
 have:=Tp0 [] 0 [] 0 s now gr rk c0 0 rfl
 simpa using this
theorem Tmd (rev:Int)(u:List Int)(c:List Ch)(now gr:Int):∀(l:List At) (ns:List Int),(∀ a∈l,a.vis rev u=false)->zU rev u c now gr l ns=l
 | [],ns,h=>by cases ns<;> rfl
 | a::l,[],h=>rfl
 | a::l,n::ns,h=>by
  rw[zU,if_neg (by rw[h a (List.mem_cons_self ..)]; simp),Tmd rev u c now gr l ns fun b hb=>h b (List.mem_cons_of_mem _ hb)]
def szN (l:List At):Nat:= (l.map fun a=>a.txt.size).sum
theorem Tu3 (rev:Int)(u:List Int)(now gr:Int)(s:ByteArray)(a:At)(Q:List At)(t:Int)(ha:a.vis rev u=true)(hq:∀ b∈Q,b.vis rev u=false)(r:List Int) :
 ∀(P:List At) (k p:Nat),(∀ b∈P,b.vis rev u=true/\1<=b.txt.size)->p=k+szN P-> (p:Int)<t->zU rev u [⟨p,t,s⟩] now gr (P++a::Q) (plcs rev u (P++a::Q) k++r)=P++cutAt a now gr::Q
 | [],k,p,h,hp,ht=>by
  have e:p=k:=by simpa[szN]using hp
  subst e
  rw[List.nil_append,plcs,List.cons_append,zU,if_pos ⟨ha,by simp[hitB]; omega⟩,Tmd rev u _ now gr Q _ hq]
  rfl
 | b::P,k,p,h,hp,ht=>by
  have hb:=h b (List.mem_cons_self ..)
  have hs:szN (b::P)=b.txt.size+szN P:=by simp[szN]
  have hk:¬ (p:Int)<= (k:Int):=by omega
  rw[List.cons_append,plcs,List.cons_append,zU,if_neg (by rintro⟨_,c⟩; simp[hitB]at c; omega)]
  rw[hb.1]
  have ih:=Tu3 rev u now gr s a Q t ha hq r P (k+b.txt.size) p (fun x hx=>h x (List.mem_cons_of_mem _ hx)) (by omega) ht
  simp only[if_true]
  rw[ih]
  rfl
theorem Tyq (now gr rk:Int)(z:List At)(sp:List Int)(f t:Int)(h:sp.length=1):mrg now gr rk z sp [⟨f,t,⟨#[]⟩⟩] 0=z:=by
 obtain⟨n,rfl⟩:=List.length_eq_one_iff.1 h
 have e:newAts (L (⟨#[]⟩:ByteArray)) now gr rk= []:=List.length_eq_zero_iff.1 (by
  rw[Ted]
  have:=Tda (L (⟨#[]⟩:ByteArray))
  have e: (L (⟨#[]⟩:ByteArray)).length=0:=rfl
  omega)
 rw[mrg,e,mrg]
 · simp
 · intro a b c d e f; simp at *
theorem Trp (rev:Int)(u:List Int)(now gr rk:Int)(a:At)(P Q:List At)(t:Int)(ha:a.vis rev u=true)(hq:∀ b∈Q,b.vis rev u=false)(hp:∀ b∈P,b.vis rev u=true/\1<=b.txt.size)(ht: (szN P:Int)<t)
 (hk:chk (txtS rev u (P++a::Q)) [⟨szN P,t,⟨#[]⟩⟩]=0):uponF (P++a::Q) rev u [⟨szN P,t,⟨#[]⟩⟩] now gr rk=P++cutAt a now gr::Q:=by
 rw[Tgx _ rev u _ now gr rk hk,Tyq _ _ _ _ _ _ _ (Tjl _ rev u _ rk hk)]
 unfold places
 exact Tu3 rev u now gr _ a Q t ha hq _ P 0 (szN P) hp (by omega) ht
theorem Tyr (s:ByteArray)(hv:valid (L s)=true)(hs:s.size<=10000)(p:Int)(h0:0<=p)(h1:p<=s.size)(he:edge s p=true)(hE:edge s (s.size:Nat)=true):chk s [⟨p,(s.size:Nat),⟨#[]⟩⟩]=0:=by
 exact Tnx _ _ hv h0 h1 (Int.le_refl _) he hE Ta0 hs (Nat.zero_le _)
end Go.Proofs.YtjpibniecllafaaGreat.AM
end
section
namespace Go.Proofs.YtjpibniecllafaaGreat.AM
open Go Go.Proofs.YtjpibniecllafaaGreat.U
variable {cp:List PV->Option Ret}
def cpE (x:Ch):Bool:=decide (x.s= ⟨#[]⟩)
theorem runIsCopy (x:Ch):Run (EX cp) 176 [.st x.pv]=some (.val (pb (cpE x))):=by
 rw[Tah _ A_delta_IsCopy _ rfl rfl rfl]
 simp[A_delta_IsCopy,Ch.pv,cpE]
def elemF (x:Ch)(base to:Int)(ahead copied:Bool):Bool :=
 if cpE x=true then decide (to<=x.f)&& (decide (to<x.f)|| !copied)&&decide (x.f<x.t)&&decide (x.t<=base)
 else decide (x.f=0)&&decide (x.t=0)&& (!ahead||copied)&&decide (x.s.size<=20000)&&valid (L x.s)
theorem Tu4 (s:ByteArray): (s == s)=true:=by
 cases s
 simp[BEq.beq,ByteArray.beq]
 exact Array.isEqv_self _
theorem runElem (x:Ch) (base to:Int) (ahead copied:Bool) (hs:x.s.size<1099511627776):Run (EX cp) 177 [.st x.pv,pi base,pi to,pb ahead,pb copied]=some (.val (pb (elemF x base to ahead copied))):=by
 have h1:=runIsCopy (cp:=cp) x
 have h2:=utfValid (cp:=cp) x.s hs
 have hbeq: (x.s == x.s)=true:=Tu4 x.s
 rw[Tah _ A_delta_elem _ rfl rfl rfl]
 unfold elemF
 obtain⟨xf,xt,xs⟩:=x
 simp only at h2 hbeq
 cases hc:cpE ⟨xf,xt,xs⟩with
 | true =>
  rw[hc]at h1
  simp only[Ch.pv]at h1 ⊢
  by_cases c1:to<=xf
  · by_cases c2:to<xf
    · by_cases c3:xf<xt
      · by_cases c4:xt<=base
        · simp(disch:=omega)[A_delta_elem,Ch.pv,h1,c1,c2,c3,c4,Taa,Tad]
        · simp(disch:=omega)[A_delta_elem,Ch.pv,h1,c1,c2,c3,c4,Taa,Tad]
      · simp(disch:=omega)[A_delta_elem,Ch.pv,h1,c1,c2,c3,Taa,Tad]
    · cases copied with
      | true=>simp(disch:=omega)[A_delta_elem,Ch.pv,h1,c1,c2,Taa,Tad]
      | false =>
       by_cases c3:xf<xt
       · by_cases c4:xt<=base
         · simp(disch:=omega)[A_delta_elem,Ch.pv,h1,c1,c2,c3,c4,Taa,Tad]
         · simp(disch:=omega)[A_delta_elem,Ch.pv,h1,c1,c2,c3,c4,Taa,Tad]
       · simp(disch:=omega)[A_delta_elem,Ch.pv,h1,c1,c2,c3,Taa,Tad]
  · simp(disch:=omega)[A_delta_elem,Ch.pv,h1,c1,Taa,Tad]
 | false =>
  rw[hc]at h1
  simp only[Ch.pv]at h1 ⊢
  by_cases c1:xf=0
  · subst c1
    by_cases c2:xt=0
    · subst c2
      cases ahead with
      | false =>
       by_cases c4:xs.size<=20000
       · cases copied<;> simp(disch:=omega)[A_delta_elem,Ch.pv,h1,h2,c4,hbeq,eqCells,Taa,Tad]
       · cases copied<;> simp(disch:=omega)[A_delta_elem,Ch.pv,h1,c4,hbeq,eqCells,Taa,Tad]
      | true =>
       cases copied with
       | false=>simp(disch:=omega)[A_delta_elem,Ch.pv,h1,hbeq,eqCells,Taa,Tad]
       | true =>
        by_cases c4:xs.size<=20000
        · simp(disch:=omega)[A_delta_elem,Ch.pv,h1,h2,c4,hbeq,eqCells,Taa,Tad]
        · simp(disch:=omega)[A_delta_elem,Ch.pv,h1,c4,hbeq,eqCells,Taa,Tad]
    · have c2': (xt == 0)=false:=by simpa using c2
      simp(disch:=omega)[A_delta_elem,Ch.pv,h1,c2,c2',hbeq,eqCells,Taa,Tad]
  · have c1': (xf == 0)=false:=by simpa using c1
    simp(disch:=omega)[A_delta_elem,Ch.pv,h1,c1,c1',hbeq,eqCells,Taa,Tad]
end Go.Proofs.YtjpibniecllafaaGreat.AM
end
section
namespace Go.Proofs.YtjpibniecllafaaGreat.AM
open Go Go.Proofs.YtjpibniecllafaaGreat.U
attribute [local simp] cellR thereV RV.sv innE inlE reach pos subH SV.mapr RV.mapr Ob.mapr SV.refs RV.id? RV.ref Ob.refs noRow shnE shrE okK closeB freshs at0 newS leftS finishS oneS manyS allP sameFz Ob.noPin startS entryS List.range_succ List.filterMap_cons List.filterMap_nil SV.rv fzvs fzv liveV liveR rcellss rcells fillQ fixN RV.isNil revO
variable {cp:List PV->Option Ret}
noncomputable def loopcC (E:Env)(keep:List Nat)(a:ACode):Option (Out×St)->Option (Out×St)
 | some (.nor,s)=>Code E (.loopc keep a) s
 | r=>r
noncomputable def LC (E:Env)(c:ACode)(s:St):Option (Out×St):=match c with
 | .loopc keep a=>loopcC E keep a (Code E a s)
 | _=>none
noncomputable def lcC (E:Env)(c:ACode)(keep:List Nat):Option (Out×St)->Option (Out×St)
 | some (.nor,s)=>LC E c (canon (norm keep s))
 | r=>r
section
variable (E:Env)(c:ACode)(s:St)(keep:List Nat)
@[simp] theorem T42:lcC E c keep (some (.nor,s))=LC E c (canon (norm keep s)):=rfl
@[simp] theorem lcC_ex (i:Nat):lcC E c keep (some (.ex i,s))=some (.ex i,s):=rfl
@[simp] theorem T43:lcC E c keep (some (.ret,s))=some (.ret,s):=rfl
@[simp] theorem T4v:lcC E c keep none=none:=rfl
theorem LC_of {a:ACode}(h:c= .loopc keep a):Code E c s=LC E c (canon (norm keep s)):=by
 subst h
 rw[Tqn]; unfold LC loopcC; rfl
theorem Tbu {a:ACode}(h:c= .loopc keep a):LC E c s=lcC E c keep (Code E a s):=by
 subst h
 show loopcC E keep a (Code E a s)=_
 cases hc:Code E a s with
 | none=>rfl
 | some q =>
  obtain⟨o,s'⟩:=q
  cases o with
  | nor=>exact LC_of E _ s' keep rfl
  | ex i=>rfl
  | ret=>rfl
end
theorem engAtoms (l:List At)(U:List (List Int))(fl:Int)(G F:List Int)(hl:l.length<68719476736)(hc:∀ a∈l,a.cuts.length<68719476736) :
 Run (EX cp) 2000027 [.hp [.mp 0 0 0] (engH (ats l) U fl G F)]=some (.shn (.ms 2 0 l.length) [(2,.row 62 5 false (ats l))]):=by
 have h1:=atomCopy (cp:=cp) l hl hc
 rw[Tbt _ 27 A_engine_Engine_Atoms _ _ (by decide) rfl rfl rfl rfl rfl (by simp[engH]) (by decide +kernel)]
 simp(disch:=omega)[A_engine_Engine_Atoms,engH,h1]
end Go.Proofs.YtjpibniecllafaaGreat.AM
end
section
namespace Go.Proofs.YtjpibniecllafaaGreat.AM
open Go Go.Proofs.YtjpibniecllafaaGreat.U
attribute [local simp] cellR thereV RV.sv innE inlE reach pos subH SV.mapr RV.mapr Ob.mapr SV.refs RV.id? RV.ref Ob.refs noRow shnE shrE okK closeB freshs at0 newS leftS finishS oneS manyS allP sameFz Ob.noPin startS entryS List.range_succ List.filterMap_cons List.filterMap_nil SV.rv fzvs fzv liveV liveR rcellss rcells fillQ fixN RV.isNil revO
variable {cp:List PV->Option Ret}
def mkA (base:Int):List (Nat×Ob):= [(0,.gr 223 2 [[.p (pi base),.p (.sc (.slice none 0 0))]])]
def mkB (base:Int)(T:List (List PV)):List (Nat×Ob):= [(0,.gr 223 2 [[.p (pi base),.ms 1 0 T.length]]),(1,.row 225 3 false T)]
def mkC (base:Int)(T:List (List PV)):List (Nat×Ob):= [(0,.gr 223 2 [[.p (pi base),.ms 2 0 T.length]]),(1,.dead),(2,.row 225 3 false T)]
abbrev cMk (h:List (Nat×Ob)) (l:List SV):List PV:= [.hp (.mp 0 0 0::l) h]
section
variable (base:Int)(a b:Int)
theorem Trq (h:a≠b):Run (EX cp) 1000127 (cMk (mkA base) [.p (pi a),.p (pi b)])=some (.shr (.p (.tu [])) (mkB base [[pi a,pi b,pS #[]]])):=by
 rw[Tau _ 127 A_delta_Maker_Copy _ _ (by decide) (by decide) rfl rfl rfl rfl rfl (by simp[mkA])]
 simp(disch:=omega)[A_delta_Maker_Copy,mkA,mkB,h,maxBytes,Tab,Taa,Tad,Taj]
variable (T:List (List PV))(k:Nat)(hT:T.length=k+1)(hk:k<10000)(f t:Int)(s:ByteArray)(hg:T[k]?=some [pi f,pi t,.sc (.string s)])
include hT hk hg
theorem Tu5 (h:a≠b)(hc:cpE ⟨f,t,s⟩=true)(ht:t=a):Run (EX cp) 1000127 (cMk (mkB base T) [.p (pi a),.p (pi b)])=some (.shr (.p (.tu [])) (mkB base (T.set k [pi f,pi b,.sc (.string s)]))):=by
 have h1:=runIsCopy (cp:=cp) ⟨f,t,s⟩
 rw[hc]at h1
 simp only[Ch.pv]at h1
 have ek: ((k+1:Int)-1).toNat=k:=by omega
 have e0: (0:Int)<= (k:Int)+1-1:=by omega
 subst ht
 rw[Tau _ 127 A_delta_Maker_Copy _ _ (by decide) (by decide) rfl rfl rfl rfl rfl (by simp[mkB])]
 simp(disch:=omega)[A_delta_Maker_Copy,mkB,h,h1,hT,hg,ek,e0,Tab,Taa,Tad,Taj,-getElem?_pos]
theorem Trr (h:a≠b)(hc:¬ (cpE ⟨f,t,s⟩=true/\t=a)):Run (EX cp) 1000127 (cMk (mkB base T) [.p (pi a),.p (pi b)])=some (.shr (.p (.tu [])) (mkC base (T++ [[pi a,pi b,pS #[]]]))):=by
 have h1:=runIsCopy (cp:=cp) ⟨f,t,s⟩
 simp only[Ch.pv]at h1
 rw[Tau _ 127 A_delta_Maker_Copy _ _ (by decide) (by decide) rfl rfl rfl rfl rfl (by simp[mkB])]
 cases c:cpE ⟨f,t,s⟩with
 | false =>
  rw[c]at h1
  simp(disch:=omega)[A_delta_Maker_Copy,mkB,mkC,h,h1,hT,hg,maxBytes,Tab,Taa,Tad,Taj,-getElem?_pos]
 | true =>
  rw[c]at h1
  have ht:¬ t=a:=fun e=>hc ⟨c,e⟩
  simp(disch:=omega)[A_delta_Maker_Copy,mkB,mkC,h,h1,hT,hg,ht,maxBytes,Tab,Taa,Tad,Taj,-getElem?_pos]
end
end Go.Proofs.YtjpibniecllafaaGreat.AM
end
section
namespace Go.Proofs.YtjpibniecllafaaGreat.AM
open Go Go.Proofs.YtjpibniecllafaaGreat.U
attribute [local simp] cellR thereV RV.sv innE inlE reach pos subH SV.mapr RV.mapr Ob.mapr SV.refs RV.id? RV.ref Ob.refs noRow shnE shrE okK closeB freshs at0 newS leftS finishS oneS manyS allP sameFz Ob.noPin startS entryS List.range_succ List.filterMap_cons List.filterMap_nil SV.rv fzvs fzv liveV liveR rcellss rcells fillQ fixN RV.isNil revO
variable {cp:List PV->Option Ret}
section
variable (base:Int)(p:ByteArray)
theorem Tu6 (h:p≠ ⟨#[]⟩):Run (EX cp) 1000128 (cMk (mkA base) [.p (.sc (.string p))])=some (.shr (.p (.tu [])) (mkB base [[pi 0,pi 0,.sc (.string p)]])):=by
 rw[Tau _ 128 A_delta_Maker_Put _ _ (by decide) (by decide) rfl rfl rfl rfl rfl (by simp[mkA])]
 simp(disch:=omega)[A_delta_Maker_Put,mkA,mkB,h,maxBytes,Tab,Taa,Tad,Taj]
variable (T:List (List PV))(k:Nat)(hT:T.length=k+1)(hk:k<10000)(f t:Int)(s:ByteArray)(hg:T[k]?=some [pi f,pi t,.sc (.string s)])
include hT hk hg
theorem Tys (h:p≠ ⟨#[]⟩)(hc:cpE ⟨f,t,s⟩=false)(hs: ((s.size+p.size:Nat):Int)<=9223372036854775807):Run (EX cp) 1000128 (cMk (mkB base T) [.p (.sc (.string p))])=some (.shr (.p (.tu [])) (mkB base (T.set k [pi f,pi t,.sc (.string (s++p))]))):=by
 have h1:=runIsCopy (cp:=cp) ⟨f,t,s⟩
 rw[hc]at h1
 simp only[Ch.pv]at h1
 have ek: ((k+1:Int)-1).toNat=k:=by omega
 have e0: (0:Int)<= (k:Int)+1-1:=by omega
 rw[Tau _ 128 A_delta_Maker_Put _ _ (by decide) (by decide) rfl rfl rfl rfl rfl (by simp[mkB])]
 simp(disch:=omega)[A_delta_Maker_Put,mkB,h,h1,hT,hg,ek,e0,hs,Tab,Taa,Tad,Taj,-getElem?_pos]
theorem Tu7 (h:p≠ ⟨#[]⟩)(hc:cpE ⟨f,t,s⟩=true):Run (EX cp) 1000128 (cMk (mkB base T) [.p (.sc (.string p))])=some (.shr (.p (.tu [])) (mkC base (T++ [[pi 0,pi 0,.sc (.string p)]]))):=by
 have h1:=runIsCopy (cp:=cp) ⟨f,t,s⟩
 rw[hc]at h1
 simp only[Ch.pv]at h1
 rw[Tau _ 128 A_delta_Maker_Put _ _ (by decide) (by decide) rfl rfl rfl rfl rfl (by simp[mkB])]
 simp(disch:=omega)[A_delta_Maker_Put,mkB,mkC,h,h1,hT,hg,maxBytes,Tab,Taa,Tad,Taj,-getElem?_pos]
end
theorem mkDelta0 (base:Int):Run (EX cp) 1000129 (cMk (mkA base) [])=some (.shr (.p (.tu [.st [pi base,.sl 3 []],pi 0])) (mkA base)):=by
 rw[Tau _ 129 A_delta_Maker_Delta _ _ (by decide) (by decide) rfl rfl rfl rfl rfl (by simp[mkA])]
 simp(disch:=omega)[A_delta_Maker_Delta,mkA,Taa,Tad]
theorem mkDelta1 (base:Int)(T:List (List PV))(hT:T.length<=60):Run (EX cp) 1000129 (cMk (mkB base T) [])=some (.shr (.p (.tu [.st [pi base,.sl 3 T],pi 0])) [(0,.gr 223 2 [[.p (pi base),.ms 1 0 T.length]]),(1,.row 225 3 true T)]):=by
 rw[Tau _ 129 A_delta_Maker_Delta _ _ (by decide) (by decide) rfl rfl rfl rfl rfl (by simp[mkB])]
 simp(disch:=omega)[A_delta_Maker_Delta,mkB,hT,Taa,Tad,Taj]
theorem mkNew (base:Int):Run (EX cp) 2000124 [.hp [.p (pi base)] []]=some (.shn (.mp 0 0 0) (mkA base)):=by
 rw[Tbt _ 124 A_delta_NewMaker _ _ (by decide) rfl rfl rfl rfl rfl (by simp) (by decide +kernel)]
 simp(disch:=omega)[A_delta_NewMaker,mkA]
end Go.Proofs.YtjpibniecllafaaGreat.AM
end
section
namespace Go.Proofs.YtjpibniecllafaaGreat.AM
open Go Go.Proofs.YtjpibniecllafaaGreat.U
attribute [local simp] cellR thereV RV.sv innE inlE reach pos subH SV.mapr RV.mapr Ob.mapr SV.refs RV.id? RV.ref Ob.refs noRow shnE shrE okK closeB freshs at0 newS leftS finishS oneS manyS allP sameFz Ob.noPin startS entryS List.range_succ List.filterMap_cons List.filterMap_nil SV.rv fzvs fzv liveV liveR rcellss rcells fillQ fixN RV.isNil revO
variable {cp:List PV->Option Ret}
def clA (base at_:Int):List (Nat×Ob):= [(0,.gr 185 1 [[.mp 2 0 0]]),(1,.gr 3 1 [[.p (pi at_)]]),(2,.gr 223 2 [[.p (pi base),.p (.sc (.slice none 0 0))]])]
def clB (base at_:Int)(T:List (List PV)):List (Nat×Ob):= [(0,.gr 185 1 [[.mp 2 0 0]]),(1,.gr 3 1 [[.p (pi at_)]]),(2,.gr 223 2 [[.p (pi base),.ms 3 0 T.length]]),(3,.row 225 3 false T)]
def clC (base at_:Int)(T:List (List PV)):List (Nat×Ob):= [(0,.gr 185 1 [[.mp 2 0 0]]),(1,.gr 3 1 [[.p (pi at_)]]),(2,.gr 223 2 [[.p (pi base),.ms 4 0 T.length]]),(3,.dead),(4,.row 225 3 false T)]
abbrev cCl (p:ByteArray) (was is:Bool) (h:List (Nat×Ob)):List PV:= [.hp [.p (.sc (.string p)),.p (pb was),.p (pb is),.mp 0 0 0,.mp 1 0 0] h]
section
variable (base at_:Int)(p:ByteArray)(hp:1<=p.size)(hp2:p.size<=1000000)(ha:0<=at_/\at_<=1000000000)
include hp hp2 ha
theorem p_ne:p≠ ⟨#[]⟩:=fun e=>by
 have _h:=And.intro hp2 ha
 rw[e]at hp
 exact absurd hp (by decide)
theorem T3y:Run (EX cp) 1000126 (cCl p true true (clA base at_))=some (.shr (.p (.tu [])) (clB base (at_+p.size) [[pi at_,pi (at_+p.size),pS #[]]])):=by
 have h1:=Trq (cp:=cp) base at_ (at_+p.size) (by omega)
 simp only[mkA,mkB,cMk]at h1
 rw[Tau _ 126 A_diff_Between_1 _ _ (by decide) (by decide) rfl rfl rfl rfl rfl (by simp[clA])]
 simp(disch:=omega)[A_diff_Between_1,clA,clB,h1,Tab,Taa,Tad,Taj]
theorem T3z:Run (EX cp) 1000126 (cCl p false true (clA base at_))=some (.shr (.p (.tu [])) (clB base at_ [[pi 0,pi 0,.sc (.string p)]])):=by
 have h1:=Tu6 (cp:=cp) base p (p_ne at_ p hp hp2 ha)
 simp only[mkA,mkB,cMk]at h1
 rw[Tau _ 126 A_diff_Between_1 _ _ (by decide) (by decide) rfl rfl rfl rfl rfl (by simp[clA])]
 simp(disch:=omega)[A_diff_Between_1,clA,clB,h1,Tab,Taa,Tad,Taj]
theorem T30:Run (EX cp) 1000126 (cCl p true false (clA base at_))=some (.shr (.p (.tu [])) (clA base (at_+p.size))):=by
 have _h:=hp
 rw[Tau _ 126 A_diff_Between_1 _ _ (by decide) (by decide) rfl rfl rfl rfl rfl (by simp[clA])]
 simp(disch:=omega)[A_diff_Between_1,clA,Tab,Taa,Tad,Taj]
theorem T31 (T:List (List PV)):Run (EX cp) 1000126 (cCl p true false (clB base at_ T))=some (.shr (.p (.tu [])) (clB base (at_+p.size) T)):=by
 have _h:=hp
 rw[Tau _ 126 A_diff_Between_1 _ _ (by decide) (by decide) rfl rfl rfl rfl rfl (by simp[clB])]
 simp(disch:=omega)[A_diff_Between_1,clB,Tab,Taa,Tad,Taj]
variable (T:List (List PV))(k:Nat)(hT:T.length=k+1)(hk:k<10000)(f t:Int)(s:ByteArray)(hg:T[k]?=some [pi f,pi t,.sc (.string s)])
include hT hk hg
theorem Tu8 (hc:cpE ⟨f,t,s⟩=true)(ht:t=at_):Run (EX cp) 1000126 (cCl p true true (clB base at_ T))=some (.shr (.p (.tu [])) (clB base (at_+p.size) (T.set k [pi f,pi (at_+p.size),.sc (.string s)]))):=by
 have h1:=Tu5 (cp:=cp) base at_ (at_+p.size) T k hT hk f t s hg (by omega) hc ht
 simp only[mkB,cMk]at h1
 rw[Tau _ 126 A_diff_Between_1 _ _ (by decide) (by decide) rfl rfl rfl rfl rfl (by simp[clB])]
 simp(disch:=omega)[A_diff_Between_1,clB,h1,Tab,Taa,Tad,Taj]
theorem Trs (hc:¬ (cpE ⟨f,t,s⟩=true/\t=at_)):Run (EX cp) 1000126 (cCl p true true (clB base at_ T))=some (.shr (.p (.tu [])) (clC base (at_+p.size) (T++ [[pi at_,pi (at_+p.size),pS #[]]]))):=by
 have h1:=Trr (cp:=cp) base at_ (at_+p.size) T k hT hk f t s hg (by omega) hc
 simp only[mkB,mkC,cMk]at h1
 rw[Tau _ 126 A_diff_Between_1 _ _ (by decide) (by decide) rfl rfl rfl rfl rfl (by simp[clB])]
 simp(disch:=omega)[A_diff_Between_1,clB,clC,h1,Tab,Taa,Tad,Taj]
theorem Tu9 (hc:cpE ⟨f,t,s⟩=false)(hs:s.size<=1000000000):Run (EX cp) 1000126 (cCl p false true (clB base at_ T))=some (.shr (.p (.tu [])) (clB base at_ (T.set k [pi f,pi t,.sc (.string (s++p))]))):=by
 have h1:=Tys (cp:=cp) base p T k hT hk f t s hg (p_ne at_ p hp hp2 ha) hc (by omega)
 simp only[mkB,cMk]at h1
 rw[Tau _ 126 A_diff_Between_1 _ _ (by decide) (by decide) rfl rfl rfl rfl rfl (by simp[clB])]
 simp(disch:=omega)[A_diff_Between_1,clB,h1,Tab,Taa,Tad,Taj]
theorem Trt (hc:cpE ⟨f,t,s⟩=true):Run (EX cp) 1000126 (cCl p false true (clB base at_ T))=some (.shr (.p (.tu [])) (clC base at_ (T++ [[pi 0,pi 0,.sc (.string p)]]))):=by
 have h1:=Tu7 (cp:=cp) base p T k hT hk f t s hg (p_ne at_ p hp hp2 ha) hc
 simp only[mkB,mkC,cMk]at h1
 rw[Tau _ 126 A_diff_Between_1 _ _ (by decide) (by decide) rfl rfl rfl rfl rfl (by simp[clB])]
 simp(disch:=omega)[A_diff_Between_1,clB,clC,h1,Tab,Taa,Tad,Taj]
end
end Go.Proofs.YtjpibniecllafaaGreat.AM
end
section
namespace Go.Proofs.YtjpibniecllafaaGreat.AM
open Go Go.Proofs.YtjpibniecllafaaGreat.U
attribute [local simp] cellR thereV RV.sv innE inlE reach pos subH SV.mapr RV.mapr Ob.mapr SV.refs RV.id? RV.ref Ob.refs noRow shnE shrE okK closeB freshs at0 newS leftS finishS oneS manyS allP sameFz Ob.noPin startS entryS List.range_succ List.filterMap_cons List.filterMap_nil SV.rv fzvs fzv liveV liveR rcellss rcells fillQ fixN RV.isNil revO
variable {cp:List PV->Option Ret}
def ChW (c:List Ch):Prop:=c.length<=9223372036854775807/\∀ x∈c,x.s.size<1000000
section
variable (E:Eng)(H:EOk E)(b g rk:Int)(c:List Ch)
include H
variable (hw:ChW c)(hb:E.fl<=b/\b<=E.fl+E.U.length-1)(hk:chk (E.textAt b) c=0)(hg:inR g)
include hw hb hk hg
variable (ha:revAdd E.U E.fl E.G E.F g= .shr (.p (.tu [pi (E.fl+E.U.length),pi 0])) [(0,revO (E.U++ [lastS E.U]) E.fl (insS g E.G) E.F)])
include ha
end
end Go.Proofs.YtjpibniecllafaaGreat.AM
end
section
namespace Go.Proofs.YtjpibniecllafaaGreat.AM
open Go Go.Proofs.YtjpibniecllafaaGreat.U
attribute [local simp] cellR thereV RV.sv innE inlE reach pos subH SV.mapr RV.mapr Ob.mapr SV.refs RV.id? RV.ref Ob.refs noRow shnE shrE okK closeB freshs at0 newS leftS finishS oneS manyS allP sameFz Ob.noPin startS entryS List.range_succ List.filterMap_cons List.filterMap_nil SV.rv fzvs fzv liveV liveR rcellss rcells fillQ fixN RV.isNil revO
variable {cp:List PV->Option Ret}
section
variable (E:Eng)(H:EOk E)(b g rk:Int)(c:List Ch)
include H
variable (hw:ChW c)(hb:E.fl<=b/\b<=E.fl+E.U.length-1)(hk:chk (E.textAt b) c=0)(hg:inR g)
include hw hb hk hg
variable (ha:revAdd E.U E.fl E.G E.F g= .shr (.p (.tu [pi (E.fl+E.U.length),pi 0])) [(0,revO (E.U++ [lastS E.U]) E.fl (insS g E.G) E.F)])(hr:0<=rk/\rk<=1000000)
include ha hr
end
end Go.Proofs.YtjpibniecllafaaGreat.AM
end
section
namespace Go.Proofs.YtjpibniecllafaaGreat.AM
open Go Go.Proofs.YtjpibniecllafaaGreat.U
attribute [local simp] cellR thereV RV.sv innE inlE reach pos subH SV.mapr RV.mapr Ob.mapr SV.refs RV.id? RV.ref Ob.refs noRow shnE shrE okK closeB freshs at0 newS leftS finishS oneS manyS allP sameFz Ob.noPin startS entryS List.range_succ List.filterMap_cons List.filterMap_nil SV.rv fzvs fzv liveV liveR rcellss rcells fillQ fixN RV.isNil revO
variable {cp:List PV->Option Ret}
theorem Tme (U:List (List Int))(fl:Int)(s:List Int)(h0:0<=fl):undU (U++ [s]) fl (fl+ (U++ [s]).length-1)=s:=by
 unfold undU
 rw[if_pos (by simp; omega)]
 have e: (fl+ ((U++ [s]).length:Int)-1-fl).toNat=U.length:=by simp; omega
 rw[e]
 simp
section
variable (E:Eng)(H:EOk E)(b g rk:Int)(c:List Ch)
include H
theorem EOk.fitN (hn: (E.upon b g rk c).length<=4000):Fit2 (E.upon b g rk c):=by
 have h1:okTx (E.upon b g rk c):=Tnw H.tx _ _ _ _ _ _
 have h2:∀ a∈E.upon b g rk c,(a.cuts.length:Int)<=E.fl+E.U.length-1+1:=Tmc E.l b (E.ut b) c (E.fl+E.U.length) g rk (E.fl+E.U.length-1) (by have:=H.fl0; have:=H.u1; omega) H.cuts
 have h3:=H.hd
 exact Tux _ (by omega) (fun a ha=>by have:=h1.size a ha; omega) (fun a ha=>by have:=h2 a ha; omega)
end
section
variable (E:Eng)(H:EOk E)(g:Int)
include H
end
end Go.Proofs.YtjpibniecllafaaGreat.AM
end
section
namespace Go.Proofs.YtjpibniecllafaaGreat.AM
open Go Go.Proofs.YtjpibniecllafaaGreat.U
attribute [local simp] cellR thereV RV.sv innE inlE reach pos subH SV.mapr RV.mapr Ob.mapr SV.refs RV.id? RV.ref Ob.refs noRow shnE shrE okK closeB freshs at0 newS leftS finishS oneS manyS allP sameFz Ob.noPin startS entryS List.range_succ List.filterMap_cons List.filterMap_nil SV.rv fzvs fzv liveV liveR rcellss rcells fillQ fixN RV.isNil revO canon pinsOf pinOb canF canP RV.ren
variable {cp:List PV->Option Ret}
def ebT (fr to_:Int)(u v:PV)(n i:Nat):List (Nat×SV):= [(1,.p (pi fr)),(2,.p (pi to_)),(3,.fnv 126 [.mp 1 0 0,.mp 2 0 0]),(9,.p u),(10,.p v),(32,.ms 1000 0 n),(33,.p (pi n)),(34,.p (pi i))]
def ebP (E:Eng)(at_:Int):List (Nat×Ob):= [(0,.gr 100 2 [[.p (.sl 5 (ats E.l)),.mo 3]]),(1,.gr 185 1 [[.mp 4 0 0]]),(2,.gr 3 1 [[.p (pi at_)]]),(3,.mpo E.U E.fl E.G E.F)]
def ebA (E:Eng)(A:List (List PV))(fr to_:Int)(u v:PV)(n i:Nat)(base at_:Int):St:= ⟨ebT fr to_ u v n i,ebP E at_++ [(4,.gr 223 2 [[.p (pi base),.p (.sc (.slice none 0 0))]]),(1000,.row 62 5 false A),(999999,.pin [0,1,2,3,4])]⟩
def ebB (E:Eng)(A:List (List PV))(fr to_:Int)(u v:PV)(n i:Nat)(base at_:Int)(T:List (List PV)):St:= ⟨ebT fr to_ u v n i,ebP E at_++ [(4,.gr 223 2 [[.p (pi base),.ms 1001 0 T.length]]),(1000,.row 62 5 false A),(1001,.row 225 3 false T),(999999,.pin [0,1,2,3,4])]⟩
section
variable (E:Eng)(A:List (List PV))(fr to_:Int)(u v:PV)(n i:Nat)(base at_:Int)(x1:ByteArray)(x2 x3 x4:Int)(x5:PV)(res:Option (Out×St))
variable (hA:A.length=n)(hi:i<n)(hn:n<=100000)(h1:A[i]?=some [.sc (.string x1),pi x2,pi x3,pi x4,x5])(hp:1<=x1.size)(hp2:x1.size<=1000000)(ha:0<=at_/\at_<=1000000000)
include hA hi hn h1 hp hp2 ha
theorem T32 (hv1:Run (EX cp) 152 [.st [.sc (.string x1),pi x2,pi x3,pi x4,x5],pi fr,u]=some (.val (pb false)))(hv2:Run (EX cp) 152 [.st [.sc (.string x1),pi x2,pi x3,pi x4,x5],pi to_,v]=some (.val (pb false)))
 (ih:LC (EX cp) L_diff_each_0 (ebA E A fr to_ u v n (i+1) base (at_))=res):LC (EX cp) L_diff_each_0 (ebA E A fr to_ u v n i base at_)=res:=by
 have _h:=And.intro hp (And.intro hp2 ha)
 rw[Tbu _ L_diff_each_0 _ _ rfl]
 try unfold ebA at *
 try unfold ebB at *
 unfold ebT ebP at *
 rw[show((i+1:Nat):Int)= (i:Int)+1 by omega]at ih
 have wi:IntKind.wrap .i64 ((i:Int)+1)= (i:Int)+1:=Tab _ (by omega) (by omega)
 have wa:IntKind.wrap .i64 (at_+x1.size)=at_+x1.size:=Tab _ (by omega) (by omega)
 have hi': (i:Int)<n:=by omega
 simp(maxSteps:=1000000)[hA,hi,hi',wi,wa,h1,hv1,hv2,Taj,-getElem?_pos]
 exact ih
theorem T33 (hv1:Run (EX cp) 152 [.st [.sc (.string x1),pi x2,pi x3,pi x4,x5],pi fr,u]=some (.val (pb true)))(hv2:Run (EX cp) 152 [.st [.sc (.string x1),pi x2,pi x3,pi x4,x5],pi to_,v]=some (.val (pb false)))
 (ih:LC (EX cp) L_diff_each_0 (ebA E A fr to_ u v n (i+1) base (at_+x1.size))=res):LC (EX cp) L_diff_each_0 (ebA E A fr to_ u v n i base at_)=res:=by
 have hc1:=T30 (cp:=cp) base at_ x1 hp hp2 ha
 simp only[clA,cCl]at hc1
 have _h:=And.intro hp (And.intro hp2 ha)
 rw[Tbu _ L_diff_each_0 _ _ rfl]
 try unfold ebA at *
 try unfold ebB at *
 unfold ebT ebP at *
 rw[show((i+1:Nat):Int)= (i:Int)+1 by omega]at ih
 have wi:IntKind.wrap .i64 ((i:Int)+1)= (i:Int)+1:=Tab _ (by omega) (by omega)
 have wa:IntKind.wrap .i64 (at_+x1.size)=at_+x1.size:=Tab _ (by omega) (by omega)
 have hi': (i:Int)<n:=by omega
 simp(maxSteps:=1000000)[hA,hi,hi',wi,wa,h1,hv1,hv2,hc1,Taj,-getElem?_pos]
 exact ih
end
end Go.Proofs.YtjpibniecllafaaGreat.AM
end
section
namespace Go.Proofs.YtjpibniecllafaaGreat.AM
open Go Go.Proofs.YtjpibniecllafaaGreat.U
attribute [local simp] cellR thereV RV.sv innE inlE reach pos subH SV.mapr RV.mapr Ob.mapr SV.refs RV.id? RV.ref Ob.refs noRow shnE shrE okK closeB freshs at0 newS leftS finishS oneS manyS allP sameFz Ob.noPin startS entryS List.range_succ List.filterMap_cons List.filterMap_nil SV.rv fzvs fzv liveV liveR rcellss rcells fillQ fixN RV.isNil revO canon pinsOf pinOb canF canP RV.ren
variable {cp:List PV->Option Ret}
section
variable (E:Eng)(A:List (List PV))(fr to_:Int)(u v:PV)(n i:Nat)(base at_:Int)(x1:ByteArray)(x2 x3 x4:Int)(x5:PV)(res:Option (Out×St))
variable (hA:A.length=n)(hi:i<n)(hn:n<=100000)(h1:A[i]?=some [.sc (.string x1),pi x2,pi x3,pi x4,x5])(hp:1<=x1.size)(hp2:x1.size<=1000000)(ha:0<=at_/\at_<=1000000000)
include hA hi hn h1 hp hp2 ha
theorem T34 (hv1:Run (EX cp) 152 [.st [.sc (.string x1),pi x2,pi x3,pi x4,x5],pi fr,u]=some (.val (pb false)))(hv2:Run (EX cp) 152 [.st [.sc (.string x1),pi x2,pi x3,pi x4,x5],pi to_,v]=some (.val (pb true)))
 (ih:LC (EX cp) L_diff_each_0 (ebB E A fr to_ u v n (i+1) base (at_) ([[pi 0,pi 0,.sc (.string x1)]]))=res):LC (EX cp) L_diff_each_0 (ebA E A fr to_ u v n i base at_)=res:=by
 have hc1:=T3z (cp:=cp) base at_ x1 hp hp2 ha
 simp only[clA,clB,cCl]at hc1
 have _h:=And.intro hp (And.intro hp2 ha)
 rw[Tbu _ L_diff_each_0 _ _ rfl]
 try unfold ebA at *
 try unfold ebB at *
 unfold ebT ebP at *
 rw[show((i+1:Nat):Int)= (i:Int)+1 by omega]at ih
 have wi:IntKind.wrap .i64 ((i:Int)+1)= (i:Int)+1:=Tab _ (by omega) (by omega)
 have wa:IntKind.wrap .i64 (at_+x1.size)=at_+x1.size:=Tab _ (by omega) (by omega)
 have hi': (i:Int)<n:=by omega
 simp(maxSteps:=1000000)[hA,hi,hi',wi,wa,h1,hv1,hv2,hc1,Taj,-getElem?_pos]
 exact ih
theorem T35 (hv1:Run (EX cp) 152 [.st [.sc (.string x1),pi x2,pi x3,pi x4,x5],pi fr,u]=some (.val (pb true)))(hv2:Run (EX cp) 152 [.st [.sc (.string x1),pi x2,pi x3,pi x4,x5],pi to_,v]=some (.val (pb true)))
 (ih:LC (EX cp) L_diff_each_0 (ebB E A fr to_ u v n (i+1) base (at_+x1.size) ([[pi at_,pi (at_+x1.size),pS #[]]]))=res):LC (EX cp) L_diff_each_0 (ebA E A fr to_ u v n i base at_)=res:=by
 have hc1:=T3y (cp:=cp) base at_ x1 hp hp2 ha
 simp only[clA,clB,cCl]at hc1
 have _h:=And.intro hp (And.intro hp2 ha)
 rw[Tbu _ L_diff_each_0 _ _ rfl]
 try unfold ebA at *
 try unfold ebB at *
 unfold ebT ebP at *
 rw[show((i+1:Nat):Int)= (i:Int)+1 by omega]at ih
 have wi:IntKind.wrap .i64 ((i:Int)+1)= (i:Int)+1:=Tab _ (by omega) (by omega)
 have wa:IntKind.wrap .i64 (at_+x1.size)=at_+x1.size:=Tab _ (by omega) (by omega)
 have hi': (i:Int)<n:=by omega
 simp(maxSteps:=1000000)[hA,hi,hi',wi,wa,h1,hv1,hv2,hc1,Taj,-getElem?_pos]
 exact ih
end
end Go.Proofs.YtjpibniecllafaaGreat.AM
end
section
namespace Go.Proofs.YtjpibniecllafaaGreat.AM
open Go Go.Proofs.YtjpibniecllafaaGreat.U
attribute [local simp] cellR thereV RV.sv innE inlE reach pos subH SV.mapr RV.mapr Ob.mapr SV.refs RV.id? RV.ref Ob.refs noRow shnE shrE okK closeB freshs at0 newS leftS finishS oneS manyS allP sameFz Ob.noPin startS entryS List.range_succ List.filterMap_cons List.filterMap_nil SV.rv fzvs fzv liveV liveR rcellss rcells fillQ fixN RV.isNil revO canon pinsOf pinOb canF canP RV.ren
variable {cp:List PV->Option Ret}
section
variable (E:Eng)(A:List (List PV))(fr to_:Int)(u v:PV)(n i:Nat)(base at_:Int)(x1:ByteArray)(x2 x3 x4:Int)(x5:PV)(res:Option (Out×St))
variable (hA:A.length=n)(hi:i<n)(hn:n<=100000)(h1:A[i]?=some [.sc (.string x1),pi x2,pi x3,pi x4,x5])(hp:1<=x1.size)(hp2:x1.size<=1000000)(ha:0<=at_/\at_<=1000000000)
include hA hi hn h1 hp hp2 ha
variable (T:List (List PV))
theorem T36 (hv1:Run (EX cp) 152 [.st [.sc (.string x1),pi x2,pi x3,pi x4,x5],pi fr,u]=some (.val (pb false)))(hv2:Run (EX cp) 152 [.st [.sc (.string x1),pi x2,pi x3,pi x4,x5],pi to_,v]=some (.val (pb false)))
 (ih:LC (EX cp) L_diff_each_0 (ebB E A fr to_ u v n (i+1) base (at_) (T))=res):LC (EX cp) L_diff_each_0 (ebB E A fr to_ u v n i base at_ T)=res:=by
 have _h:=And.intro hp (And.intro hp2 ha)
 rw[Tbu _ L_diff_each_0 _ _ rfl]
 try unfold ebA at *
 try unfold ebB at *
 unfold ebT ebP at *
 rw[show((i+1:Nat):Int)= (i:Int)+1 by omega]at ih
 have wi:IntKind.wrap .i64 ((i:Int)+1)= (i:Int)+1:=Tab _ (by omega) (by omega)
 have wa:IntKind.wrap .i64 (at_+x1.size)=at_+x1.size:=Tab _ (by omega) (by omega)
 have hi': (i:Int)<n:=by omega
 simp(maxSteps:=1000000)[hA,hi,hi',wi,wa,h1,hv1,hv2,Taj,-getElem?_pos]
 exact ih
theorem T37 (hv1:Run (EX cp) 152 [.st [.sc (.string x1),pi x2,pi x3,pi x4,x5],pi fr,u]=some (.val (pb true)))(hv2:Run (EX cp) 152 [.st [.sc (.string x1),pi x2,pi x3,pi x4,x5],pi to_,v]=some (.val (pb false)))
 (ih:LC (EX cp) L_diff_each_0 (ebB E A fr to_ u v n (i+1) base (at_+x1.size) (T))=res):LC (EX cp) L_diff_each_0 (ebB E A fr to_ u v n i base at_ T)=res:=by
 have hc1:=T31 (cp:=cp) base at_ x1 hp hp2 ha T
 simp only[clB,cCl]at hc1
 have _h:=And.intro hp (And.intro hp2 ha)
 rw[Tbu _ L_diff_each_0 _ _ rfl]
 try unfold ebA at *
 try unfold ebB at *
 unfold ebT ebP at *
 rw[show((i+1:Nat):Int)= (i:Int)+1 by omega]at ih
 have wi:IntKind.wrap .i64 ((i:Int)+1)= (i:Int)+1:=Tab _ (by omega) (by omega)
 have wa:IntKind.wrap .i64 (at_+x1.size)=at_+x1.size:=Tab _ (by omega) (by omega)
 have hi': (i:Int)<n:=by omega
 simp(maxSteps:=1000000)[hA,hi,hi',wi,wa,h1,hv1,hv2,hc1,Taj,-getElem?_pos]
 exact ih
end
end Go.Proofs.YtjpibniecllafaaGreat.AM
end
section
namespace Go.Proofs.YtjpibniecllafaaGreat.AM
open Go Go.Proofs.YtjpibniecllafaaGreat.U
attribute [local simp] cellR thereV RV.sv innE inlE reach pos subH SV.mapr RV.mapr Ob.mapr SV.refs RV.id? RV.ref Ob.refs noRow shnE shrE okK closeB freshs at0 newS leftS finishS oneS manyS allP sameFz Ob.noPin startS entryS List.range_succ List.filterMap_cons List.filterMap_nil SV.rv fzvs fzv liveV liveR rcellss rcells fillQ fixN RV.isNil revO canon pinsOf pinOb canF canP RV.ren
variable {cp:List PV->Option Ret}
section
variable (E:Eng)(A:List (List PV))(fr to_:Int)(u v:PV)(n i:Nat)(base at_:Int)(x1:ByteArray)(x2 x3 x4:Int)(x5:PV)(res:Option (Out×St))
variable (hA:A.length=n)(hi:i<n)(hn:n<=100000)(h1:A[i]?=some [.sc (.string x1),pi x2,pi x3,pi x4,x5])(hp:1<=x1.size)(hp2:x1.size<=1000000)(ha:0<=at_/\at_<=1000000000)
include hA hi hn h1 hp hp2 ha
variable (T:List (List PV))
variable (k:Nat)(hT:T.length=k+1)(hk:k<10000)(f t:Int)(s:ByteArray)(hg:T[k]?=some [pi f,pi t,.sc (.string s)])
include hT hk hg
theorem Tva (hc:cpE ⟨f,t,s⟩=true)(ht:t=at_)(hv1:Run (EX cp) 152 [.st [.sc (.string x1),pi x2,pi x3,pi x4,x5],pi fr,u]=some (.val (pb true)))(hv2:Run (EX cp) 152 [.st [.sc (.string x1),pi x2,pi x3,pi x4,x5],pi to_,v]=some (.val (pb true)))
 (ih:LC (EX cp) L_diff_each_0 (ebB E A fr to_ u v n (i+1) base (at_+x1.size) (T.set k [pi f,pi (at_+x1.size),.sc (.string s)]))=res):LC (EX cp) L_diff_each_0 (ebB E A fr to_ u v n i base at_ T)=res:=by
 have hc1:=Tu8 (cp:=cp) base at_ x1 hp hp2 ha T k hT hk f t s hg hc ht
 simp only[clB,cCl,List.length_set]at hc1
 rw[hT]at hc1
 simp only[ebB,List.length_set,List.length_append,List.length_singleton,hT]at ih hc1
 have _h:=And.intro hp (And.intro hp2 ha)
 rw[Tbu _ L_diff_each_0 _ _ rfl]
 try unfold ebA at *
 try unfold ebB at *
 unfold ebT ebP at *
 rw[show((i+1:Nat):Int)= (i:Int)+1 by omega]at ih
 have wi:IntKind.wrap .i64 ((i:Int)+1)= (i:Int)+1:=Tab _ (by omega) (by omega)
 have wa:IntKind.wrap .i64 (at_+x1.size)=at_+x1.size:=Tab _ (by omega) (by omega)
 have hi': (i:Int)<n:=by omega
 simp(maxSteps:=1000000)[hA,hi,hi',wi,wa,h1,hv1,hv2,hc1,hT,Taj,-getElem?_pos]
 exact ih
end
end Go.Proofs.YtjpibniecllafaaGreat.AM
end
section
namespace Go.Proofs.YtjpibniecllafaaGreat.AM
open Go Go.Proofs.YtjpibniecllafaaGreat.U
attribute [local simp] cellR thereV RV.sv innE inlE reach pos subH SV.mapr RV.mapr Ob.mapr SV.refs RV.id? RV.ref Ob.refs noRow shnE shrE okK closeB freshs at0 newS leftS finishS oneS manyS allP sameFz Ob.noPin startS entryS List.range_succ List.filterMap_cons List.filterMap_nil SV.rv fzvs fzv liveV liveR rcellss rcells fillQ fixN RV.isNil revO canon pinsOf pinOb canF canP RV.ren
variable {cp:List PV->Option Ret}
section
variable (E:Eng)(A:List (List PV))(fr to_:Int)(u v:PV)(n i:Nat)(base at_:Int)(x1:ByteArray)(x2 x3 x4:Int)(x5:PV)(res:Option (Out×St))
variable (hA:A.length=n)(hi:i<n)(hn:n<=100000)(h1:A[i]?=some [.sc (.string x1),pi x2,pi x3,pi x4,x5])(hp:1<=x1.size)(hp2:x1.size<=1000000)(ha:0<=at_/\at_<=1000000000)
include hA hi hn h1 hp hp2 ha
variable (T:List (List PV))
variable (k:Nat)(hT:T.length=k+1)(hk:k<10000)(f t:Int)(s:ByteArray)(hg:T[k]?=some [pi f,pi t,.sc (.string s)])
include hT hk hg
theorem Tru (hc:¬ (cpE ⟨f,t,s⟩=true/\t=at_))(hv1:Run (EX cp) 152 [.st [.sc (.string x1),pi x2,pi x3,pi x4,x5],pi fr,u]=some (.val (pb true)))(hv2:Run (EX cp) 152 [.st [.sc (.string x1),pi x2,pi x3,pi x4,x5],pi to_,v]=some (.val (pb true)))
 (ih:LC (EX cp) L_diff_each_0 (ebB E A fr to_ u v n (i+1) base (at_+x1.size) (T++ [[pi at_,pi (at_+x1.size),pS #[]]]))=res):LC (EX cp) L_diff_each_0 (ebB E A fr to_ u v n i base at_ T)=res:=by
 have hc1:=Trs (cp:=cp) base at_ x1 hp hp2 ha T k hT hk f t s hg hc
 simp only[clB,clC,cCl]at hc1
 rw[hT]at hc1
 simp only[ebB,List.length_set,List.length_append,List.length_singleton,hT]at ih hc1
 have _h:=And.intro hp (And.intro hp2 ha)
 rw[Tbu _ L_diff_each_0 _ _ rfl]
 try unfold ebA at *
 try unfold ebB at *
 unfold ebT ebP at *
 rw[show((i+1:Nat):Int)= (i:Int)+1 by omega]at ih
 have wi:IntKind.wrap .i64 ((i:Int)+1)= (i:Int)+1:=Tab _ (by omega) (by omega)
 have wa:IntKind.wrap .i64 (at_+x1.size)=at_+x1.size:=Tab _ (by omega) (by omega)
 have hi': (i:Int)<n:=by omega
 simp(maxSteps:=1000000)[hA,hi,hi',wi,wa,h1,hv1,hv2,hc1,hT,Taj,-getElem?_pos]
 exact ih
end
end Go.Proofs.YtjpibniecllafaaGreat.AM
end
section
namespace Go.Proofs.YtjpibniecllafaaGreat.AM
open Go Go.Proofs.YtjpibniecllafaaGreat.U
attribute [local simp] cellR thereV RV.sv innE inlE reach pos subH SV.mapr RV.mapr Ob.mapr SV.refs RV.id? RV.ref Ob.refs noRow shnE shrE okK closeB freshs at0 newS leftS finishS oneS manyS allP sameFz Ob.noPin startS entryS List.range_succ List.filterMap_cons List.filterMap_nil SV.rv fzvs fzv liveV liveR rcellss rcells fillQ fixN RV.isNil revO canon pinsOf pinOb canF canP RV.ren
variable {cp:List PV->Option Ret}
section
variable (E:Eng)(A:List (List PV))(fr to_:Int)(u v:PV)(n i:Nat)(base at_:Int)(x1:ByteArray)(x2 x3 x4:Int)(x5:PV)(res:Option (Out×St))
variable (hA:A.length=n)(hi:i<n)(hn:n<=100000)(h1:A[i]?=some [.sc (.string x1),pi x2,pi x3,pi x4,x5])(hp:1<=x1.size)(hp2:x1.size<=1000000)(ha:0<=at_/\at_<=1000000000)
include hA hi hn h1 hp hp2 ha
variable (T:List (List PV))
variable (k:Nat)(hT:T.length=k+1)(hk:k<10000)(f t:Int)(s:ByteArray)(hg:T[k]?=some [pi f,pi t,.sc (.string s)])
include hT hk hg
theorem Tvb (hc:cpE ⟨f,t,s⟩=false)(hs:s.size<=1000000000)(hv1:Run (EX cp) 152 [.st [.sc (.string x1),pi x2,pi x3,pi x4,x5],pi fr,u]=some (.val (pb false)))(hv2:Run (EX cp) 152 [.st [.sc (.string x1),pi x2,pi x3,pi x4,x5],pi to_,v]=some (.val (pb true)))
 (ih:LC (EX cp) L_diff_each_0 (ebB E A fr to_ u v n (i+1) base (at_) (T.set k [pi f,pi t,.sc (.string (s++x1))]))=res):LC (EX cp) L_diff_each_0 (ebB E A fr to_ u v n i base at_ T)=res:=by
 have hc1:=Tu9 (cp:=cp) base at_ x1 hp hp2 ha T k hT hk f t s hg hc hs
 simp only[clB,cCl,List.length_set]at hc1
 rw[hT]at hc1
 simp only[ebB,List.length_set,List.length_append,List.length_singleton,hT]at ih hc1
 have _h:=And.intro hp (And.intro hp2 ha)
 rw[Tbu _ L_diff_each_0 _ _ rfl]
 try unfold ebA at *
 try unfold ebB at *
 unfold ebT ebP at *
 rw[show((i+1:Nat):Int)= (i:Int)+1 by omega]at ih
 have wi:IntKind.wrap .i64 ((i:Int)+1)= (i:Int)+1:=Tab _ (by omega) (by omega)
 have wa:IntKind.wrap .i64 (at_+x1.size)=at_+x1.size:=Tab _ (by omega) (by omega)
 have hi': (i:Int)<n:=by omega
 simp(maxSteps:=1000000)[hA,hi,hi',wi,wa,h1,hv1,hv2,hc1,hT,Taj,-getElem?_pos]
 exact ih
end
end Go.Proofs.YtjpibniecllafaaGreat.AM
end
section
namespace Go.Proofs.YtjpibniecllafaaGreat.AM
open Go Go.Proofs.YtjpibniecllafaaGreat.U
attribute [local simp] cellR thereV RV.sv innE inlE reach pos subH SV.mapr RV.mapr Ob.mapr SV.refs RV.id? RV.ref Ob.refs noRow shnE shrE okK closeB freshs at0 newS leftS finishS oneS manyS allP sameFz Ob.noPin startS entryS List.range_succ List.filterMap_cons List.filterMap_nil SV.rv fzvs fzv liveV liveR rcellss rcells fillQ fixN RV.isNil revO canon pinsOf pinOb canF canP RV.ren
variable {cp:List PV->Option Ret}
section
variable (E:Eng)(A:List (List PV))(fr to_:Int)(u v:PV)(n i:Nat)(base at_:Int)(x1:ByteArray)(x2 x3 x4:Int)(x5:PV)(res:Option (Out×St))
variable (hA:A.length=n)(hi:i<n)(hn:n<=100000)(h1:A[i]?=some [.sc (.string x1),pi x2,pi x3,pi x4,x5])(hp:1<=x1.size)(hp2:x1.size<=1000000)(ha:0<=at_/\at_<=1000000000)
include hA hi hn h1 hp hp2 ha
variable (T:List (List PV))
variable (k:Nat)(hT:T.length=k+1)(hk:k<10000)(f t:Int)(s:ByteArray)(hg:T[k]?=some [pi f,pi t,.sc (.string s)])
include hT hk hg
theorem Trv (hc:cpE ⟨f,t,s⟩=true)(hv1:Run (EX cp) 152 [.st [.sc (.string x1),pi x2,pi x3,pi x4,x5],pi fr,u]=some (.val (pb false)))(hv2:Run (EX cp) 152 [.st [.sc (.string x1),pi x2,pi x3,pi x4,x5],pi to_,v]=some (.val (pb true)))
 (ih:LC (EX cp) L_diff_each_0 (ebB E A fr to_ u v n (i+1) base (at_) (T++ [[pi 0,pi 0,.sc (.string x1)]]))=res):LC (EX cp) L_diff_each_0 (ebB E A fr to_ u v n i base at_ T)=res:=by
 have hc1:=Trt (cp:=cp) base at_ x1 hp hp2 ha T k hT hk f t s hg hc
 simp only[clB,clC,cCl]at hc1
 rw[hT]at hc1
 simp only[ebB,List.length_set,List.length_append,List.length_singleton,hT]at ih hc1
 have _h:=And.intro hp (And.intro hp2 ha)
 rw[Tbu _ L_diff_each_0 _ _ rfl]
 try unfold ebA at *
 try unfold ebB at *
 unfold ebT ebP at *
 rw[show((i+1:Nat):Int)= (i:Int)+1 by omega]at ih
 have wi:IntKind.wrap .i64 ((i:Int)+1)= (i:Int)+1:=Tab _ (by omega) (by omega)
 have wa:IntKind.wrap .i64 (at_+x1.size)=at_+x1.size:=Tab _ (by omega) (by omega)
 have hi': (i:Int)<n:=by omega
 simp(maxSteps:=1000000)[hA,hi,hi',wi,wa,h1,hv1,hv2,hc1,hT,Taj,-getElem?_pos]
 exact ih
end
end Go.Proofs.YtjpibniecllafaaGreat.AM
end
section
namespace Go.Proofs.YtjpibniecllafaaGreat.AM
open Go Go.Proofs.YtjpibniecllafaaGreat.U
variable {cp:List PV->Option Ret}
theorem Tcw {α:Type}(e:List α):e= []∨∃ l x,e=l++ [x]:=by
 rcases List.eq_nil_or_concat e with h | ⟨l,x,h⟩
 · exact Or.inl h
 · exact Or.inr ⟨l,x,by rw[h,List.concat_eq_append]⟩
def dCp (e:List Ch)(a b:Int):List Ch:=match e.getLast? with
 | some x=>if cpE x=true/\x.t=a then e.dropLast++ [⟨x.f,b,x.s⟩]else e++ [⟨a,b,⟨#[]⟩⟩]
 | none=> [⟨a,b,⟨#[]⟩⟩]
def dPt (e:List Ch)(p:ByteArray):List Ch:=match e.getLast? with
 | some x=>if cpE x=true then e++ [⟨0,0,p⟩]else e.dropLast++ [⟨x.f,x.t,x.s++p⟩]
 | none=> [⟨0,0,p⟩]
def bwStep (q:List Ch×Int)(p:ByteArray)(was is:Bool):List Ch×Int:= (if is=true then(if was=true then dCp q.1 q.2 (q.2+p.size)else dPt q.1 p)else q.1,if was=true then q.2+p.size else q.2)
def bwAll (fr to_:Int)(u v:List Int)(l:List At)(q:List Ch×Int):List Ch×Int:=l.foldl (fun q a=>bwStep q a.txt (a.vis fr u) (a.vis to_ v)) q
def eb (E:Eng)(A:List (List PV))(fr to_:Int)(u v:PV)(n i:Nat)(base at_:Int):List Ch->St
 | []=>ebA E A fr to_ u v n i base at_
 | x::e=>ebB E A fr to_ u v n i base at_ (chs (x::e))
theorem Tew (E:Eng)(A:List (List PV))(fr to_:Int)(u v:PV)(n i:Nat)(base at_:Int)(e:List Ch)(x:Ch):eb E A fr to_ u v n i base at_ (e++ [x])=ebB E A fr to_ u v n i base at_ (chs (e++ [x])):=by
 cases e<;> rfl
theorem T2i (E:Eng)(A:List (List PV))(fr to_:Int)(u v:PV)(n i:Nat)(base at_:Int)(a:At)(was is:Bool)(e:List Ch)(res:Option (Out×St))
 (hA:A.length=n) (hi:i<n) (hn:n<=100000) (h1:A[i]?=some a.pv) (hp:1<=a.txt.size) (hp2:a.txt.size<=1000000) (ha:0<=at_/\at_<=1000000000) (he:e.length<10000) (hs:∀ x∈e,x.s.size<=1000000000)
 (hv1:Run (EX cp) 152 [.st a.pv,pi fr,u]=some (.val (pb was))) (hv2:Run (EX cp) 152 [.st a.pv,pi to_,v]=some (.val (pb is)))
 (ih:LC (EX cp) L_diff_each_0 (eb E A fr to_ u v n (i+1) base (bwStep (e,at_) a.txt was is).2 (bwStep (e,at_) a.txt was is).1)=res):LC (EX cp) L_diff_each_0 (eb E A fr to_ u v n i base at_ e)=res:=by
 obtain⟨x1,x2,x3,x4,x5⟩:=a
 simp only[At.pv]at h1 hv1 hv2
 simp only at hp hp2 ih
 rcases Tcw e with rfl | ⟨l,x,rfl⟩
 · cases was<;> cases is
   · exact T32 E A fr to_ u v n i base at_ x1 x2 x3 x4 _ res hA hi hn h1 hp hp2 ha hv1 hv2 ih
   · exact T34 E A fr to_ u v n i base at_ x1 x2 x3 x4 _ res hA hi hn h1 hp hp2 ha hv1 hv2 ih
   · exact T33 E A fr to_ u v n i base at_ x1 x2 x3 x4 _ res hA hi hn h1 hp hp2 ha hv1 hv2 ih
   · exact T35 E A fr to_ u v n i base at_ x1 x2 x3 x4 _ res hA hi hn h1 hp hp2 ha hv1 hv2 ih
 · have hT: (chs (l++ [x])).length=l.length+1:=by simp
   have hk:l.length<10000:=by simp at he; omega
   have hg: (chs (l++ [x]))[l.length]?=some [pi x.f,pi x.t,.sc (.string x.s)]:=by
    have:=Tdd (l++ [x]) l.length (by simp)
    rw[this]
    simp[Ch.pv]
   have hset:∀ y:Ch,(chs (l++ [x])).set l.length [pi y.f,pi y.t,.sc (.string y.s)]=chs (l++ [y]):=by
    intro y
    simp[chs,Ch.pv,List.set_append_right]
   have happ:∀ y:Ch,chs (l++ [x])++ [[pi y.f,pi y.t,.sc (.string y.s)]]=chs (l++ [x]++ [y]):=by
    intro y
    simp[chs,Ch.pv]
   have hxs:=hs x (by simp)
   rw[Tew]
   cases was<;> cases is
   · refine T36 E A fr to_ u v n i base at_ x1 x2 x3 x4 _ res hA hi hn h1 hp hp2 ha (chs (l++ [x])) hv1 hv2 ?_
     rw[← Tew]; exact ih
   · have ih':LC (EX cp) L_diff_each_0 (eb E A fr to_ u v n (i+1) base at_ (dPt (l++ [x]) x1))=res:=ih
     unfold dPt at ih'
     rw[List.getLast?_concat,List.dropLast_concat]at ih'
     simp only at ih'
     cases hc:cpE x with
     | true =>
      rw[if_pos hc,Tew]at ih'
      refine Trv E A fr to_ u v n i base at_ x1 x2 x3 x4 _ res hA hi hn h1 hp hp2 ha (chs (l++ [x])) l.length hT hk x.f x.t x.s hg hc hv1 hv2 ?_
      rw[happ ⟨0,0,x1⟩]; exact ih'
     | false =>
      rw[if_neg (by rw[hc]; simp),Tew]at ih'
      refine Tvb E A fr to_ u v n i base at_ x1 x2 x3 x4 _ res hA hi hn h1 hp hp2 ha (chs (l++ [x])) l.length hT hk x.f x.t x.s hg hc hxs hv1 hv2 ?_
      rw[hset ⟨x.f,x.t,x.s++x1⟩]; exact ih'
   · refine T37 E A fr to_ u v n i base at_ x1 x2 x3 x4 _ res hA hi hn h1 hp hp2 ha (chs (l++ [x])) hv1 hv2 ?_
     rw[← Tew]; exact ih
   · have ih':LC (EX cp) L_diff_each_0 (eb E A fr to_ u v n (i+1) base (at_+x1.size) (dCp (l++ [x]) at_ (at_+x1.size)))=res:=ih
     unfold dCp at ih'
     rw[List.getLast?_concat,List.dropLast_concat]at ih'
     simp only at ih'
     by_cases hc:cpE x=true/\x.t=at_
     · rw[if_pos hc,Tew]at ih'
       refine Tva E A fr to_ u v n i base at_ x1 x2 x3 x4 _ res hA hi hn h1 hp hp2 ha (chs (l++ [x])) l.length hT hk x.f x.t x.s hg hc.1 hc.2 hv1 hv2 ?_
       rw[hset ⟨x.f,at_+x1.size,x.s⟩]; exact ih'
     · rw[if_neg hc,Tew]at ih'
       refine Tru E A fr to_ u v n i base at_ x1 x2 x3 x4 _ res hA hi hn h1 hp hp2 ha (chs (l++ [x])) l.length hT hk x.f x.t x.s hg hc hv1 hv2 ?_
       rw[happ ⟨at_,at_+x1.size,⟨#[]⟩⟩]; exact ih'
end Go.Proofs.YtjpibniecllafaaGreat.AM
end
section
namespace Go.Proofs.YtjpibniecllafaaGreat.AM
open Go Go.Proofs.YtjpibniecllafaaGreat.U
attribute [local simp] cellR thereV RV.sv innE inlE reach pos subH SV.mapr RV.mapr Ob.mapr SV.refs RV.id? RV.ref Ob.refs noRow shnE shrE okK closeB freshs at0 newS leftS finishS oneS manyS allP sameFz Ob.noPin startS entryS List.range_succ List.filterMap_cons List.filterMap_nil SV.rv fzvs fzv liveV liveR rcellss rcells fillQ fixN RV.isNil revO canon pinsOf pinOb canF canP RV.ren
variable {cp:List PV->Option Ret}
def ebF (E:Eng)(A:List (List PV))(fr to_:Int)(u v:PV)(n:Nat)(base at_:Int)(M:RV)(X:List (Nat×Ob)):St:= ⟨[(1,.p (pi fr)),(2,.p (pi to_)),(3,.fnv 126 [.mp 1 0 0,.mp 2 0 0]),(9,.p u),(10,.p v),(32,.ms 32 0 n),(33,.p (pi n)),(34,.p (pi n)),(35,.p (pb false))],ebP E at_++ [(4,.gr 223 2 [[.p (pi base),M]]),(32,.row 62 5 false A)]++X++ [(999999,.pin [0,1,2,3,4])]⟩
theorem T2j (E:Eng)(A:List (List PV))(fr to_:Int)(u v:PV)(n:Nat)(base at_:Int):LC (EX cp) L_diff_each_0 (ebA E A fr to_ u v n n base at_)=some (.ex 0,ebF E A fr to_ u v n base at_ (.p (.sc (.slice none 0 0))) []):=by
 rw[Tbu _ L_diff_each_0 _ _ rfl]
 unfold ebA ebF ebT ebP
 simp(disch:=omega)[Tad]
theorem T2k (E:Eng)(A:List (List PV))(fr to_:Int)(u v:PV)(n:Nat)(base at_:Int)(T:List (List PV)):LC (EX cp) L_diff_each_0 (ebB E A fr to_ u v n n base at_ T)=some (.ex 0,ebF E A fr to_ u v n base at_ (.ms 1001 0 T.length) [(1001,.row 225 3 false T)]):=by
 rw[Tbu _ L_diff_each_0 _ _ rfl]
 unfold ebB ebF ebT ebP
 simp(disch:=omega)[Tad]
theorem T2l (e:List Ch)(a b:Int): (dCp e a b).length<=e.length+1:=by
 rcases Tcw e with rfl | ⟨l,x,rfl⟩
 · simp[dCp]
 · unfold dCp
   rw[List.getLast?_concat]
   simp only
   split<;> simp
theorem T2m (e:List Ch)(p:ByteArray): (dPt e p).length<=e.length+1:=by
 rcases Tcw e with rfl | ⟨l,x,rfl⟩
 · simp[dPt]
 · unfold dPt
   rw[List.getLast?_concat]
   simp only
   split<;> simp
theorem T38 (e:List Ch)(a b:Int)(m:Nat)(h:∀ x∈e,x.s.size<=m):∀ x∈dCp e a b,x.s.size<=m:=by
 rcases Tcw e with rfl | ⟨l,y,rfl⟩
 · intro x hx; simp[dCp]at hx; subst hx; exact Nat.zero_le _
 · intro x hx
   unfold dCp at hx
   rw[List.getLast?_concat]at hx
   simp only at hx
   split at hx
   · rw[List.dropLast_concat]at hx
     rcases List.mem_append.1 hx with h' | h'
     · exact h x (by simp[h'])
     · rw[List.mem_singleton]at h'; subst h'; exact h y (by simp)
   · rcases List.mem_append.1 hx with h' | h'
     · exact h x h'
     · rw[List.mem_singleton]at h'; subst h'; exact Nat.zero_le _
theorem T39 (e:List Ch)(p:ByteArray)(m:Nat)(h:∀ x∈e,x.s.size<=m):∀ x∈dPt e p,x.s.size<=m+p.size:=by
 rcases Tcw e with rfl | ⟨l,y,rfl⟩
 · intro x hx; simp[dPt]at hx; subst hx; simp
 · intro x hx
   unfold dPt at hx
   rw[List.getLast?_concat]at hx
   simp only at hx
   split at hx
   · rcases List.mem_append.1 hx with h' | h'
     · have:=h x h'; omega
     · rw[List.mem_singleton]at h'; subst h'; simp
   · rw[List.dropLast_concat]at hx
     rcases List.mem_append.1 hx with h' | h'
     · have:=h x (by simp[h']); omega
     · rw[List.mem_singleton]at h'; subst h'
       have:=h y (by simp)
       rw[ByteArray.size_append]; omega
theorem Tmf (E:Eng)(H:EOk E)(fr to_:Int)(u v:List Int)(hu:u.length<=9223372036854775807)(hv:v.length<=9223372036854775807)(base:Int):∀(m i:Nat) (e:List Ch) (at_:Int),m+i=E.l.length->e.length<=i-> (∀ x∈e,x.s.size<=4*i)->0<=at_->at_<=4*i ->
 LC (EX cp) L_diff_each_0 (eb E (ats E.l) fr to_ (.sl 1 (ints u)) (.sl 1 (ints v)) E.l.length i base at_ e)=LC (EX cp) L_diff_each_0 (eb E (ats E.l) fr to_ (.sl 1 (ints u)) (.sl 1 (ints v)) E.l.length E.l.length base (bwAll fr to_ u v (E.l.drop i) (e,at_)).2 (bwAll fr to_ u v (E.l.drop i) (e,at_)).1)/\ (bwAll fr to_ u v (E.l.drop i) (e,at_)).1.length<=E.l.length
 | 0,i,e,at_,hm,h1,_,_,_=>by
  obtain rfl:i=E.l.length:=by omega
  rw[List.drop_length]
  exact⟨rfl,h1⟩
 | m + 1,i,e,at_,hm,h1,h2,h3,h4=>by
  have hi:i<E.l.length:=by omega
  have hmem:=List.getElem_mem hi
  have hl:=H.len
  have hcl:=H.cl _ hmem
  obtain⟨s1,s2⟩:=H.tx.size _ hmem
  have v1:=visible (cp:=cp) E.l[i] fr u hu (by omega)
  have v2:=visible (cp:=cp) E.l[i] to_ v hv (by omega)
  have ed:bwAll fr to_ u v (E.l.drop i) (e,at_)=bwAll fr to_ u v (E.l.drop (i+1)) (bwStep (e,at_) E.l[i].txt (E.l[i].vis fr u) (E.l[i].vis to_ v)):=by
   rw[List.drop_eq_getElem_cons hi]; rfl
  rw[ed]
  have hb: (bwStep (e,at_) E.l[i].txt (E.l[i].vis fr u) (E.l[i].vis to_ v)).1.length<=i+1/\ (∀ x∈ (bwStep (e,at_) E.l[i].txt (E.l[i].vis fr u) (E.l[i].vis to_ v)).1,x.s.size<=4* (i+1))/\0<= (bwStep (e,at_) E.l[i].txt (E.l[i].vis fr u) (E.l[i].vis to_ v)).2/\ (bwStep (e,at_) E.l[i].txt (E.l[i].vis fr u) (E.l[i].vis to_ v)).2<=4* ((i+1:Nat):Int):=by
   have l1:=T2l e at_ (at_+E.l[i].txt.size)
   have l2:=T2m e E.l[i].txt
   have z1:=T38 e at_ (at_+E.l[i].txt.size) (4*i) h2
   have z2:=T39 e E.l[i].txt (4*i) h2
   unfold bwStep
   refine⟨?_,?_,?_,?_⟩
   · simp only
     split
     · split<;> omega
     · omega
   · simp only
     split
     · split
       · intro x hx; have:=z1 x hx; omega
       · intro x hx; have:=z2 x hx; omega
     · intro x hx; have:=h2 x hx; omega
   · simp only
     split<;> omega
   · simp only
     split<;> omega
  obtain⟨ih,ih2⟩:=Tmf E H fr to_ u v hu hv base m (i+1) _ _ (by omega) hb.1 hb.2.1 hb.2.2.1 hb.2.2.2
  exact⟨T2i E (ats E.l) fr to_ _ _ E.l.length i base at_ E.l[i] _ _ e _ (Tkl _) hi (by omega) (Tje E.l i hi) s1 (by omega) ⟨h3,by omega⟩ (by omega) (fun x hx=>by have:=h2 x hx; omega) v1 v2 ih,ih2⟩
def eaH (E:Eng)(base at_:Int)(M:RV)(X:List (Nat×Ob)):List (Nat×Ob):=ebP E at_++ [(4,.gr 223 2 [[.p (pi base),M]])]++X
def eaO (e:List Ch):RV×List (Nat×Ob):=match e with
 | []=> (.p (.sc (.slice none 0 0)),[])
 | x::e=> (.ms 5 0 (chs (x::e)).length,[(5,.row 225 3 false (chs (x::e)))])
theorem runEach (E:Eng)(H:EOk E)(fr to_:Int)(hf:E.fl<=fr/\fr<=E.fl+E.U.length-1)(ht:E.fl<=to_/\to_<=E.fl+E.U.length-1)(base:Int)(q:List Ch×Int)(hq:bwAll fr to_ (E.ut fr) (E.ut to_) E.l ([],0)=q) :
 Run (EX cp) 1000125 [.hp [.mp 0 0 0,.p (pi fr),.p (pi to_),.fnv 126 [.mp 1 0 0,.mp 2 0 0]] (eaH E base 0 (.p (.sc (.slice none 0 0))) [])]=some (.shr (.p (pi 0)) (eaH E base q.2 (eaO q.1).1 (eaO q.1).2))/\q.1.length<=E.l.length:=by
 have l1:=engLive (cp:=cp) (ats E.l) E.U E.fl E.G E.F fr
 have l2:=engLive (cp:=cp) (ats E.l) E.U E.fl E.G E.F to_
 rw[decide_eq_true hf.1,decide_eq_true hf.2]at l1
 rw[decide_eq_true ht.1,decide_eq_true ht.2]at l2
 have u1:=engUndoneAt (cp:=cp) (ats E.l) E.U E.fl E.G E.F fr
 have u2:=engUndoneAt (cp:=cp) (ats E.l) E.U E.fl E.G E.F to_
 have a1:=engAtoms (cp:=cp) E.l E.U E.fl E.G E.F (by have:=H.len; omega) (fun a ha=>by have:=H.cl a ha; omega)
 obtain⟨lp,hlen⟩:=Tmf (cp:=cp) E H fr to_ (undU E.U E.fl fr) (undU E.U E.fl to_) (H.ul fr) (H.ul to_) base E.l.length 0 [] 0 (by omega) (by simp) (by simp) (by omega) (by omega)
 rw[List.drop_zero]at lp hlen
 have hq':bwAll fr to_ (undU E.U E.fl fr) (undU E.U E.fl to_) E.l ([],0)=q:=hq
 rw[hq']at lp hlen
 refine⟨?_,hlen⟩
 have kL:=fun st=>LC_of (EX cp) L_diff_each_0 st _ rfl
 simp only[engH,Bool.and_self]at l1 l2 u1 u2 a1
 obtain⟨e,at_⟩:=q
 simp only at lp ⊢
 rw[Tau _ 125 A_diff_each _ _ (by decide) (by decide) rfl rfl rfl rfl rfl (by simp[eaH,ebP])]
 cases e with
 | nil =>
  have en:=T2j (cp:=cp) E (ats E.l) fr to_ (.sl 1 (ints (undU E.U E.fl fr))) (.sl 1 (ints (undU E.U E.fl to_))) E.l.length base at_
  have lp':=lp.trans en
  unfold eb ebA ebT ebF ebP at lp'
  rw[show((0:Nat):Int)=0 from rfl]at lp'
  simp only[List.cons_append,List.nil_append]at lp'
  unfold eaH ebP eaO
  generalize ats E.l=A at *
  generalize E.l.length=n at *
  simp(maxSteps:=1000000)[A_diff_each,l1,l2,u1,u2,a1,kL,lp']
 | cons x e =>
  have en:=T2k (cp:=cp) E (ats E.l) fr to_ (.sl 1 (ints (undU E.U E.fl fr))) (.sl 1 (ints (undU E.U E.fl to_))) E.l.length base at_ (chs (x::e))
  have lp':=lp.trans en
  unfold eb ebA ebT ebF ebP at lp'
  rw[show((0:Nat):Int)=0 from rfl]at lp'
  simp only[List.cons_append,List.nil_append]at lp'
  unfold eaH ebP eaO
  generalize ats E.l=A at *
  generalize E.l.length=n at *
  have hTl: (chs (x::e)).length=e.length+1:=by simp
  obtain⟨T,hT⟩:∃ T,chs (x::e)=T:= ⟨_,rfl⟩
  simp only[hT]at lp' hTl ⊢
  simp(maxSteps:=1000000)[A_diff_each,l1,l2,u1,u2,a1,kL,lp']
  all_goals exact⟨hTl,hT.symm⟩
end Go.Proofs.YtjpibniecllafaaGreat.AM
end
section
namespace Go.Proofs.YtjpibniecllafaaGreat.AM
open Go Go.Proofs.YtjpibniecllafaaGreat.U
attribute [local simp] cellR thereV RV.sv innE inlE reach pos subH SV.mapr RV.mapr Ob.mapr SV.refs RV.id? RV.ref Ob.refs noRow shnE shrE okK closeB freshs at0 newS leftS finishS oneS manyS allP sameFz Ob.noPin startS entryS List.range_succ List.filterMap_cons List.filterMap_nil SV.rv fzvs fzv liveV liveR rcellss rcells fillQ fixN RV.isNil revO RV.ren
variable {cp:List PV->Option Ret}
def btw (E:Eng)(fr to_:Int):List Ch:= (bwAll fr to_ (E.ut fr) (E.ut to_) E.l ([],0)).1
theorem runBetween (E:Eng)(H:EOk E)(fr to_:Int)(hf:E.fl<=fr/\fr<=E.fl+E.U.length-1)(ht:E.fl<=to_/\to_<=E.fl+E.U.length-1)(h60: (btw E fr to_).length<=60) :
 Run (EX cp) 1000076 [.hp [.mp 0 0 0,.p (pi fr),.p (pi to_)] E.hp]=some (.shr (.p (.tu [.st [pi (E.textAt fr).size,.sl 3 (chs (btw E fr to_))],pi 0])) E.hp):=by
 have h1:=engText (cp:=cp) E.l E.U E.fl E.G E.F fr H.fit2.fit (H.ul fr) hf
 have h1':txtS fr (undU E.U E.fl fr) E.l=E.textAt fr:=rfl
 rw[h1']at h1
 have h2:=mkNew (cp:=cp) (E.textAt fr).size
 obtain⟨h3,hlen⟩:=runEach (cp:=cp) E H fr to_ hf ht (E.textAt fr).size _ rfl
 have hb: (bwAll fr to_ (E.ut fr) (E.ut to_) E.l ([],0)).1=btw E fr to_:=rfl
 rw[hb]at h3
 generalize(bwAll fr to_ (E.ut fr) (E.ut to_) E.l ([],0)).2=at_ at *
 generalize(E.textAt fr)=s at *
 generalize btw E fr to_=e at *
 have d0:=mkDelta0 (cp:=cp) s.size
 have d1:=mkDelta1 (cp:=cp) s.size (chs e) (by rw[Tcv]; exact h60)
 simp only[mkA,mkB,cMk]at h2 d0 d1
 simp only[engH]at h1
 rw[Tau _ 76 A_diff_Between _ _ (by decide) (by decide) rfl rfl rfl rfl rfl (by simp[Eng.hp,engH])]
 have ei:PV.sc (Value.int IntKind.i64 0)=pi 0:=rfl
 cases e with
 | nil =>
  unfold eaH ebP eaO at h3
  simp only[List.cons_append,List.nil_append,List.append_nil]at h3
  simp only[Eng.hp,engH]
  clear d1
  generalize ats E.l=A at *
  simp(maxSteps:=1000000) (disch:=omega) [A_diff_Between,rvs,ei,h1,h2,h3,d0,Taa,Tad]
 | cons x e =>
  unfold eaH ebP eaO at h3
  simp only[List.cons_append,List.nil_append,List.append_nil]at h3
  simp only[Eng.hp,engH]
  clear d0
  generalize ats E.l=A at *
  generalize chs (x::e)=T at *
  simp(maxSteps:=1000000) (disch:=omega) [A_diff_Between,rvs,ei,h1,h2,h3,d1,Taa,Tad]
end Go.Proofs.YtjpibniecllafaaGreat.AM
end
section
namespace Go.Proofs.YtjpibniecllafaaGreat.AM
open Go Go.Proofs.YtjpibniecllafaaGreat.U
theorem Tdt (fr to_:Int)(u v:List Int)(a:At)(l:List At)(q:List Ch×Int):bwAll fr to_ u v (a::l) q=bwAll fr to_ u v l (bwStep q a.txt (a.vis fr u) (a.vis to_ v)):=rfl
theorem Tvc (fr to_:Int)(u v:List Int)(l m:List At)(q:List Ch×Int):bwAll fr to_ u v (l++m) q=bwAll fr to_ u v m (bwAll fr to_ u v l q):=by
 unfold bwAll; rw[List.foldl_append]
theorem Tny (fr to_:Int)(u v:List Int):∀(l:List At) (q:List Ch×Int),(∀ a∈l,a.vis to_ v=false)-> (bwAll fr to_ u v l q).1=q.1
 | [],q,h=>rfl
 | a::l,q,h=>by
  rw[Tdt,Tny fr to_ u v l _ fun b hb=>h b (List.mem_cons_of_mem _ hb),h a (List.mem_cons_self ..)]
  unfold bwStep
  simp
def szs (l:List At):Int:= (l.map fun a=> (a.txt.size:Int)).foldr (· + ·) 0
theorem Tvd (fr to_:Int)(u v:List Int):∀(l:List At) (b k:Int),(∀ a∈l,a.vis fr u=true/\a.vis to_ v=true)->bwAll fr to_ u v l ([⟨b,k,⟨#[]⟩⟩],k)= ([⟨b,k+szs l,⟨#[]⟩⟩],k+szs l)
 | [],b,k,h=>by simp[bwAll,szs]
 | a::l,b,k,h=>by
  have ha:=h a (List.mem_cons_self ..)
  have e:bwStep ([⟨b,k,⟨#[]⟩⟩],k) a.txt (a.vis fr u) (a.vis to_ v)= ([⟨b,k+a.txt.size,⟨#[]⟩⟩],k+a.txt.size):=by
   rw[ha.1,ha.2]; simp[bwStep,dCp,cpE]
  rw[Tdt,e,Tvd fr to_ u v l b _ fun b hb=>h b (List.mem_cons_of_mem _ hb)]
  have:k+a.txt.size+szs l=k+szs (a::l):=by simp[szs]; omega
  rw[this]
theorem Tyt (fr to_:Int)(u v:List Int)(a:At)(l:List At)(h:∀ b∈a::l,b.vis fr u=true/\b.vis to_ v=true):bwAll fr to_ u v (a::l) ([],0)= ([⟨0,szs (a::l),⟨#[]⟩⟩],szs (a::l)):=by
 have ha:=h a (List.mem_cons_self ..)
 have e:bwStep ([],0) a.txt (a.vis fr u) (a.vis to_ v)= ([⟨0,(a.txt.size:Int),⟨#[]⟩⟩],(a.txt.size:Int)):=by
  rw[ha.1,ha.2]; simp[bwStep,dCp]
 rw[Tdt,e,Tvd fr to_ u v l 0 _ fun b hb=>h b (List.mem_cons_of_mem _ hb)]
 have: (a.txt.size:Int)+szs l=szs (a::l):=by simp[szs]
 rw[this]
theorem Tve (fr to_:Int)(u v:List Int):∀(l:List At) (p:ByteArray) (k:Int),1<=p.size-> (∀ a∈l,a.vis fr u=false/\a.vis to_ v=true)->∃ p',L p'=L p++ (l.map fun a=>a.txt).flatMap L/\bwAll fr to_ u v l ([⟨0,0,p⟩],k)= ([⟨0,0,p'⟩],k)
 | [],p,k,hp,h=> ⟨p,by simp,rfl⟩
 | a::l,p,k,hp,h=>by
  have ha:=h a (List.mem_cons_self ..)
  have hne:¬ p= ⟨#[]⟩:=by intro c; rw[c]at hp; exact absurd hp (by decide)
  have e:bwStep ([⟨0,0,p⟩],k) a.txt (a.vis fr u) (a.vis to_ v)= ([⟨0,0,p++a.txt⟩],k):=by
   rw[ha.1,ha.2]; simp[bwStep,dPt,cpE,hne]
  obtain⟨p',h1,h2⟩:=Tve fr to_ u v l (p++a.txt) k (by rw[ByteArray.size_append]; omega) fun b hb=>h b (List.mem_cons_of_mem _ hb)
  refine⟨p',?_,by rw[Tdt,e,h2]⟩
  rw[h1]
  simp[Tkh]
end Go.Proofs.YtjpibniecllafaaGreat.AM
end
section
namespace Go.Proofs.YtjpibniecllafaaGreat.AM
open Go Go.Proofs.YtjpibniecllafaaGreat.U
variable {cp:List PV->Option Ret}
def isL (base:Int):List Ch->Int->Int->Option Bool->Bool
 | [],_,_,_=>true
 | x::l,size,to,p=>elemF x base to p.isSome (p.getD false)&& (decide (size+ (x.t-x.f+x.s.size)<=20000)&&isL base l (size+ (x.t-x.f+x.s.size)) (if cpE x=true then x.t else to) (some (cpE x)))
def isD (base:Int)(l:List Ch):Bool:=decide (0<=base)&&decide (base<=20000)&&decide (l.length<=60)&&isL base l 0 0 none
def prv (l:List Ch)(i:Nat):Option Bool:=if i=0 then none else(l[i-1]?).map cpE
theorem Tp1 {x:Ch}{base to:Int}{a c:Bool}(h:elemF x base to a c=true)(h0:0<=to)(hb:base<=20000):0<=x.f/\x.f<=x.t/\x.t<=20000/\x.s.size<=20000:=by
 unfold elemF at h
 split at h
 · rename_i hc
   simp only[Bool.and_eq_true,decide_eq_true_eq]at h
   have:x.s.size=0:=by
    unfold cpE at hc
    rw[decide_eq_true_eq]at hc
    rw[hc]; rfl
   omega
 · simp only[Bool.and_eq_true,decide_eq_true_eq]at h
   omega
def dS (base:Int)(R:List (List PV))(n:Nat)(size to:Int)(i:Nat):St:= ⟨[(1,.mp 1 0 0),(3,.p (pi size)),(4,.p (pi to)),(23,.p (.sl 3 R)),(24,.p (pi n)),(25,.p (pi i))],[(1,.row 131 2 false [[pi base,.sl 3 R]])]⟩
def dX:St:= ⟨[(2,.p (pb false))],[]⟩
theorem Teg (base:Int)(hb:base<=20000):∀(l:List Ch) (size to:Int) (p:Option Bool),isL base l size to p=true->0<=to->∀ x∈l,0<=x.f/\x.f<=x.t/\x.t<=20000/\x.s.size<=20000
 | [],_,_,_,_,_,x,hx=>by simp at hx
 | y::l,size,to,p,h,h0,x,hx=>by
  rw[isL,Bool.and_eq_true,Bool.and_eq_true]at h
  have hy:=Tp1 h.1 h0 hb
  rcases List.mem_cons.1 hx with rfl | hx
  · exact hy
  · exact Teg base hb l _ _ _ h.2.2 (by split<;> omega) x hx
theorem Tde {base:Int}{l:List Ch}(h:isD base l=true):0<=base/\base<=20000/\l.length<=60/\isL base l 0 0 none=true:=by
 unfold isD at h
 simp only[Bool.and_eq_true,decide_eq_true_eq]at h
 exact⟨h.1.1.1,h.1.1.2,h.1.2,h.2⟩
def mvL (at_:Int):List Ch->Int->Int->Int×Int
 | [],n,w=> (n,w)
 | x::l,n,w=>if cpE x=true then(if at_<=x.f then(n,w)else if at_<x.t then(n+ (w+min x.t at_-x.f),0)else mvL at_ l (n+ (w+min x.t at_-x.f)) 0)else mvL at_ l n (w+x.s.size)
def moveF (base:Int)(l:List Ch)(at_:Int)(after:Bool):Int :=
 let q:=mvL (min (max at_ 0) base) l 0 0
 if after=true then q.1+q.2 else q.1
def mvR:ACode:=tailN 6 A_offset_Move.body
theorem T4a:mvR= (.seq (.seq (.reg [Mv 56 2] [7,8,56]) (.ite (t 56) (.reg [Mv 57 7,Mv 58 8,Bt 59 .add 57 58,Mv 7 59] [7]) .skip)) (.seq (.reg [Mv 60 7,Mv 6 60] [6]) .ret)):=rfl
theorem Tnz (af:Bool)(n w:Int)(hn: -1000000000<=n/\n<=1000000000)(hw:0<=w/\w<=1000000000)(s:St)(h2:get s.t 2=some (.p (pb af)))(h7:get s.t 7=some (.p (pi n)))(h8:get s.t 8=some (.p (pi w)))
 (hk:norm [7,8,56] ⟨put s.t 56 (.p (pb af)),s.h⟩= ⟨[(7,.p (pi n)),(8,.p (pi w)),(56,.p (pb af))],[]⟩):runC A_offset_Move (Code (EX cp) mvR s)=some (.val (pi (if af=true then n+w else n))):=by
 have hfin:∀ q,runC A_offset_Move q=runC ⟨3,61,[.t 6],.skip⟩ q:=fun q=>by
  cases q with
  | none=>rfl
  | some q=>obtain⟨a,b⟩:=q; cases a<;> rfl
 rw[hfin,T4a,k_seq,k_seq,k_reg]
 have e:AM.steps (Run (EX cp)) [Mv 56 2] s=some ⟨put s.t 56 (.p (pb af)),s.h⟩:=by
  simp[h2]
 rw[e,Ttt,hk]
 cases af<;> simp(disch:=omega)[Tab]
theorem Tn0 (l:List Ch)(hl:l.length<=60)(hs:∀ x∈l,0<=x.f/\x.f<=x.t/\x.t<=20000/\x.s.size<=20000)(at_:Int)(h0:0<=at_)(h1:at_<=20000)(af:Bool):∀(m i:Nat) (n w:Int),m+i=l.length-> -2000000*i<=n->n<=2000000*i->0<=w->w<=20000*i ->
 ∃ s,Code (EX cp) L_offset_Move_0 ⟨[(1,.p (pi at_)),(2,.p (pb af)),(7,.p (pi n)),(8,.p (pi w)),(20,.p (.sl 3 (chs l))),(21,.p (pi l.length)),(22,.p (pi i))],[]⟩=some (.ex 0,s) /\
  runC A_offset_Move (Code (EX cp) mvR s)=some (.val (pi (if af=true then(mvL at_ (l.drop i) n w).1+ (mvL at_ (l.drop i) n w).2 else(mvL at_ (l.drop i) n w).1)))
 | 0,i,n,w,hm,_,_,_,_=>by
  obtain rfl:i=l.length:=by omega
  rw[List.drop_length,mvL]
  refine⟨⟨[(1,.p (pi at_)),(2,.p (pb af)),(7,.p (pi n)),(8,.p (pi w)),(20,.p (.sl 3 (chs l))),(21,.p (pi l.length)),(22,.p (pi l.length)),(23,.p (pb false))],[]⟩,?_,Tnz af n w (by omega) (by omega) _ rfl rfl rfl (by simp)⟩
  rw[L_offset_Move_0,Taf]
  generalize chs l=R at *
  generalize l.length=z at *
  simp(disch:=omega)[Tad,-getElem?_pos]
 | m + 1,i,n,w,hm,q1,q2,q3,q4=>by
  have hi:i<l.length:=by omega
  have hc:=Tdd l i hi
  obtain⟨b1,b2,b3,b4⟩:=hs _ (List.getElem_mem hi)
  have e2:=runIsCopy (cp:=cp) l[i]
  rw[List.drop_eq_getElem_cons hi,mvL]
  have ihA:=Tn0 l hl hs at_ h0 h1 af m (i+1) n (w+l[i].s.size) (by omega) (by omega) (by omega) (by omega) (by omega)
  have ihB:=Tn0 l hl hs at_ h0 h1 af m (i+1) (n+ (w+min l[i].t at_-l[i].f)) 0 (by omega) (by omega) (by omega) (by omega) (by omega)
  rw[show((i+1:Nat):Int)= (i:Int)+1 by omega]at ihA ihB
  rw[L_offset_Move_0,Taf]
  rw[L_offset_Move_0]at ihA ihB
  have hl2:=Tcv l
  have hmin: (if at_<l[i].t then at_ else l[i].t)=min l[i].t at_:=by omega
  have hm1:min l[i].t at_<=20000/\0<=min l[i].t at_:=by omega
  have hww:IntKind.wrap .i64 (n+ (w+min l[i].t at_-l[i].f))=n+ (w+min l[i].t at_-l[i].f):=Tab _ (by omega) (by omega)
  have hw2:IntKind.wrap .i64 (w+min l[i].t at_-l[i].f)=w+min l[i].t at_-l[i].f:=Tab _ (by omega) (by omega)
  have hw3:IntKind.wrap .i64 (w+min l[i].t at_)=w+min l[i].t at_:=Tab _ (by omega) (by omega)
  have hres:=Tnz (cp:=cp) af (n+ (w+min l[i].t at_-l[i].f)) 0 (by omega) (by omega)
  generalize l[i]=x at *
  generalize chs l=R at *
  generalize mvL at_ (l.drop (i+1)) n (w+x.s.size)=rA at *
  generalize mvL at_ (l.drop (i+1)) (n+ (w+min x.t at_-x.f)) 0=rB at *
  generalize l.length=z at *
  simp only[Ch.pv]at e2 hc
  cases hcp:cpE x with
  | false =>
   rw[hcp]at e2
   obtain⟨s,a1,a2⟩:=ihA
   refine⟨s,?_,a2⟩
   rw[← a1]
   simp(disch:=omega)[hc,e2,hi,Taa,Tad,Tab,-getElem?_pos]
  | true =>
   rw[hcp]at e2
   simp only[if_true]
   by_cases c1:at_<=x.f
   · rw[if_pos c1]
     refine⟨⟨[(1,.p (pi at_)),(2,.p (pb af)),(7,.p (pi n)),(8,.p (pi w)),(10,.mp 10 0 0),(20,.p (.sl 3 R)),(21,.p (pi z)),(22,.p (pi i)),(50,.p (pb true))],[(10,.row 225 3 false [[pi x.f,pi x.t,.sc (.string x.s)]])]⟩,?_,Tnz af n w (by omega) (by omega) _ rfl rfl rfl (by simp)⟩
     simp(disch:=omega)[hc,e2,hi,c1,Taa,Tad,Tab,-getElem?_pos]
   · rw[if_neg c1]
     by_cases c2:at_<x.t
     · rw[if_pos c2]
       refine⟨⟨[(1,.p (pi at_)),(2,.p (pb af)),(7,.p (pi (n+ (w+min x.t at_-x.f)))),(8,.p (pi 0)),(20,.p (.sl 3 R)),(21,.p (pi z)),(22,.p (pi i)),(40,.p (pb true))],[]⟩,?_,hres _ rfl rfl rfl (by simp)⟩
       have hmin': (if at_<x.t then at_ else x.t)=min x.t at_:=hmin
       simp(disch:=omega)[hc,e2,hi,c1,hmin',hww,hw2,hw3,Taa,Tad,Tab,-getElem?_pos]
     · rw[if_neg c2]
       obtain⟨s,a1,a2⟩:=ihB
       refine⟨s,?_,a2⟩
       rw[← a1]
       simp(disch:=omega)[hc,e2,hi,c1,hmin,hww,hw2,hw3,Taa,Tad,Tab,-getElem?_pos]
end Go.Proofs.YtjpibniecllafaaGreat.AM
end
section
namespace Go.Proofs.YtjpibniecllafaaGreat.AM
open Go Go.Proofs.YtjpibniecllafaaGreat.U
theorem Tn1 (b:Int)(h0:0<=b)(h1:b<=20000):isD b []=true:=by simp[isD,isL,h0,h1]
theorem Tzq (b p:Int)(h0:0<p)(h1:p<=b)(h2:b<=20000):isD b [⟨0,p,⟨#[]⟩⟩]=true:=by
 have e0: (0:Int)<=b:=by omega
 have e1:p<=20000:=by omega
 have e2: (⟨#[]⟩:ByteArray).size=0:=rfl
 simp[isD,isL,elemF,cpE,e0,h0,h1,h2,e1,e2]
theorem Tzr (b:Int)(s:ByteArray)(h0:0<=b)(h1:b<=20000)(hs:1<=s.size)(hs2:s.size<=20000)(hv:valid (L s)=true):isD b [⟨0,0,s⟩]=true:=by
 have hne:¬ s= ⟨#[]⟩:=by intro c; rw[c]at hs; exact absurd hs (by decide)
 have e1: (s.size:Int)<=20000:=by omega
 simp[isD,isL,elemF,cpE,h0,h1,hne,hs2,hv,e1]
theorem Tvf (b a:Int)(h0:0<=b):moveF b [] a true=0:=by simp[moveF,mvL]
theorem mv_cp (b p a:Int)(h0:0<p)(h1:p<=a)(h2:a<=b):moveF b [⟨0,p,⟨#[]⟩⟩] a true=p:=by
 have e:min (max a 0) b=a:=by omega
 have e1:¬ a<=0:=by omega
 have e2:¬ a<p:=by omega
 have e3:min p a=p:=by omega
 simp[moveF,mvL,cpE,e,e1,e2,e3]
theorem mv_pt (b a:Int)(s:ByteArray)(h0:0<=b)(hs:1<=s.size):moveF b [⟨0,0,s⟩] a true=s.size:=by
 have hne:¬ s= ⟨#[]⟩:=by intro c; rw[c]at hs; exact absurd hs (by decide)
 simp[moveF,mvL,cpE,hne]
def Era (A:List At)(i:Nat)(l:List At):Prop:=∃ Q,l=A.take (A.length-i)++Q/\Q.map (fun a=>a.txt)= (A.drop (A.length-i)).map (fun a=>a.txt)/\∀ a∈Q,a.rv=1/\a.gr=1/\∃ c:Int,a.cuts= [(c,2)]/\2<=c/\c<=i+1
theorem Era.zero (A:List At):Era A 0 A:= ⟨[],by simp,by simp,by simp⟩
theorem Era.step {A l:List At}{i:Nat}(hA:∀ a∈A,a.rv=1/\a.gr=1/\a.cuts= [])(h:Era A i l)(hi:i<A.length):∃ P a Q,P=A.take (A.length-i-1)/\a=A[A.length-i-1]/\l=P++a::Q/\A.take (A.length-i)=P++ [a]/\ (∀ b∈Q,b.rv=1/\b.gr=1/\∃ c:Int,b.cuts= [(c,2)]/\2<=c/\c<=i+1)/\Era A (i+1) (P++cutAt a (i+2) 2::Q):=by
 obtain⟨Q,h1,h2,h3⟩:=h
 have hk:A.length-i-1<A.length:=by omega
 have e1:A.length-i=A.length-i-1+1:=by omega
 have et:A.take (A.length-i)=A.take (A.length-i-1)++ [A[A.length-i-1]]:=by
  conv=>lhs; rw[e1]
  rw[List.take_add_one,List.getElem?_eq_getElem hk]; rfl
 have ha:=hA _ (List.getElem_mem hk)
 refine⟨_,_,Q,rfl,rfl,?_,et,h3,cutAt A[A.length-i-1] (i+2) 2::Q,?_,?_,?_⟩
 · rw[h1,et,List.append_assoc,List.singleton_append]
 · rw[show A.length- (i+1)=A.length-i-1 by omega]
 · rw[show A.length- (i+1)=A.length-i-1 by omega,List.drop_eq_getElem_cons hk,List.map_cons,List.map_cons,h2,← e1]; rfl
 · intro b hb
   rcases List.mem_cons.1 hb with rfl | hb
   · refine⟨ha.1,ha.2.1,(i+2:Int),?_,by omega,by omega⟩
     show A[A.length-i-1].cuts++ [((i:Int)+2,2)]=_
     rw[ha.2.2]; rfl
   · obtain⟨q1,q2,c,q3,q4,q5⟩:=h3 b hb
     exact⟨q1,q2,c,q3,q4,by omega⟩
theorem Teh {a:At}(h:a.rv=1/\a.gr=1/\a.cuts= [])(r:Int)(hr:1<=r)(u:List Int)(hu:holdsF 1 u=true):a.vis r u=true:=by
 unfold At.vis
 rw[h.1,h.2.1,h.2.2,hu]
 simp[hr]
theorem Tdf {a:At}{c:Int}(h:a.rv=1/\a.gr=1/\a.cuts= [(c,2)])(r:Int)(hr:c<=r):a.vis r []=false:=by
 unfold At.vis
 have e:holdsF 2 []=true:=by decide
 rw[h.1,h.2.1,h.2.2]
 simp[hr,e]
theorem Tif {a:At}{c:Int}(h:a.rv=1/\a.gr=1/\a.cuts= [(c,2)])(r:Int)(hr:1<=r):a.vis r [2]=true:=by
 unfold At.vis
 have e:holdsF 2 [2]=false:=by decide
 have e1:holdsF 1 [2]=true:=by decide
 rw[h.1,h.2.1,h.2.2,e1]
 simp[hr,e]
theorem Tdu (rev:Int)(u:List Int):∀ l:List At,(∀ a∈l,a.vis rev u=false)->txtF rev u l= []
 | [],h=>rfl
 | a::l,h=>by
  rw[txtF,h a (List.mem_cons_self ..),Tdu rev u l fun b hb=>h b (List.mem_cons_of_mem _ hb)]
  simp
theorem Tmg (rev:Int)(u:List Int)(P Q:List At)(hp:∀ a∈P,a.vis rev u=true)(hq:∀ a∈Q,a.vis rev u=false):txtF rev u (P++Q)=tl P:=by
 rw[Tbj,Tfg rev u P hp,Tdu rev u Q hq,List.append_nil]
theorem Tdg:∀ l:List At,(tl l).length=szN l
 | []=>rfl
 | a::l=>by
  have:=Tdg l
  unfold tl at this ⊢
  unfold szN at this ⊢
  rw[List.map_cons,List.flatMap_cons,List.length_append,this,List.map_cons,List.sum_cons,L_len]
abbrev C4:=Int×Int×Int×Int
def cu (v:Int):Int:=if 65536<=v then 2 else 1
def cl (v:Int):Int:=if v=10 then 1 else 0
def one4 (v:Int):C4:= (((enc v).length:Int),1,cu v,cl v)
def add4 (a b:C4):C4:= (a.1+b.1,a.2.1+b.2.1,a.2.2.1+b.2.2.1,a.2.2.2+b.2.2.2)
def cnt:List Int->C4
 | []=> (0,0,0,0)
 | v::l=>add4 (one4 v) (cnt l)
def C4.cells (c:C4):List PV:= [pi c.1,pi c.2.1,pi c.2.2.1,pi c.2.2.2]
theorem Tmh (a:C4):add4 a (0,0,0,0)=a:=by simp[add4]
theorem Tmi (a:C4):add4 (0,0,0,0) a=a:=by simp[add4]
theorem Tjo (a b c:C4):add4 (add4 a b) c=add4 a (add4 b c):=by
 simp only[add4,Prod.mk.injEq]; omega
theorem Trw (a b:List Int):cnt (a++b)=add4 (cnt a) (cnt b):=by
 induction a with
 | nil=>rw[List.nil_append,cnt,Tmi]
 | cons v a ih=>rw[List.cons_append,cnt,ih,cnt,Tjo]
theorem Tyu (a:List Int)(v:Int):cnt (a++ [v])=add4 (cnt a) (one4 v):=by rw[Trw,cnt,cnt,Tmh]
theorem Tp2 (v:Int):1<=cu v/\cu v<=2:=by unfold cu; split<;> omega
theorem Tp3 (v:Int):0<=cl v/\cl v<=1:=by unfold cl; split<;> omega
theorem Tmj (l:List Int):0<= (cnt l).1/\ (cnt l).1<=4*l.length/\ (cnt l).2.1=l.length/\0<= (cnt l).2.2.1/\ (cnt l).2.2.1<=2*l.length/\0<= (cnt l).2.2.2/\ (cnt l).2.2.2<=l.length:=by
 induction l with
 | nil=>simp[cnt]
 | cons v l ih =>
  have a:=Tb7 v
  have b:=Tp2 v
  have c:=Tp3 v
  simp only[cnt,add4,one4,List.length_cons]
  omega
def cntS (s:ByteArray):C4:=cnt (points (L s))
def cntP:List ByteArray->C4
 | []=> (0,0,0,0)
 | x::l=>add4 (cntS x) (cntP l)
theorem Tig (a b:List ByteArray):cntP (a++b)=add4 (cntP a) (cntP b):=by
 induction a with
 | nil=>rw[List.nil_append,cntP,Tmi]
 | cons v a ih=>rw[List.cons_append,cntP,ih,cntP,Tjo]
def flat (l:List ByteArray):List UInt8:=l.flatMap L
theorem Tih (a b:List ByteArray):flat (a++b)=flat a++flat b:=by simp[flat]
theorem Tbo (x:ByteArray)(l:List ByteArray):flat (x::l)=L x++flat l:=rfl
theorem Tjp (s:ByteArray):0<= (cntS s).1/\ (cntS s).1<=4*s.size/\0<= (cntS s).2.1/\ (cntS s).2.1<=s.size/\0<= (cntS s).2.2.1/\ (cntS s).2.2.1<=2*s.size/\0<= (cntS s).2.2.2/\ (cntS s).2.2.2<=s.size:=by
 have h:=Tmj (points (L s))
 have h2:=Tda (L s)
 rw[L_len]at h2
 unfold cntS
 omega
theorem Trx (l:List ByteArray):0<= (cntP l).1/\ (cntP l).1<=4* (flat l).length/\0<= (cntP l).2.1/\ (cntP l).2.1<= (flat l).length/\0<= (cntP l).2.2.1/\ (cntP l).2.2.1<=2* (flat l).length/\0<= (cntP l).2.2.2/\ (cntP l).2.2.2<= (flat l).length:=by
 induction l with
 | nil=>simp[cntP,flat]
 | cons x l ih =>
  have h:=Tjp x
  rw[Tbo,List.length_append,L_len]
  simp only[cntP,add4]
  omega
theorem Try (l:List ByteArray)(h:∀ x∈l,valid (L x)=true):valid (flat l)=true:=by
 induction l with
 | nil=>exact Ta0
 | cons x l ih =>
  rw[Tbo,Td1 (h x (by simp))]
  exact ih fun y hy=>h y (by simp[hy])
end Go.Proofs.YtjpibniecllafaaGreat.AM
end
