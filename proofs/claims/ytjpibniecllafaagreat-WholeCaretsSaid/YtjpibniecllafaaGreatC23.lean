/- Made by pack.py: more of it. No condition but what each says. -/
import Derived.Test.YtjpibniecllafaaGreatC22
set_option linter.unusedSimpArgs false
set_option linter.unusedVariables false
set_option maxHeartbeats 16000000
section
namespace Go.Proofs.YtjpibniecllafaaGreat.AM
open Go Go.Proofs.YtjpibniecllafaaGreat.U
def bls (t z:List UInt8):List Nat->Nat->List UInt8
 | s::sp,k=> (z.drop k).take (s-k)++t++bls t z sp s
 | [],k=>z.drop k
section
variable (s:ByteArray)(hs:s.size<=60)(ha:∀ b∈L s,b.toNat<128)
include ha
theorem Twb:newAts (L s) 1 1 0= (L s).map fun b=> ⟨⟨#[b]⟩,1,1,0,[]⟩:=Tgk 1 1 0 (L s) ha
theorem T20: (newAts (L s) 1 1 0).length=s.size:=by rw[Twb s ha,List.length_map,L_len]
theorem T21:∀ a∈newAts (L s) 1 1 0,a.txt.size=1:=by
 rw[Twb s ha]
 intro a h
 obtain⟨b,_,rfl⟩:=List.mem_map.1 h
 rfl
theorem Tzx (k n:Nat):tl (((newAts (L s) 1 1 0).drop k).take n)= ((L s).drop k).take n:=by
 rw[Twb s ha,← List.map_drop,← List.map_take]
 generalize((L s).drop k).take n=l
 unfold tl
 rw[List.map_map]
 induction l with
 | nil=>rfl
 | cons b l ih=>rw[List.map_cons,List.flatMap_cons,ih]; rfl
theorem Twc (k:Nat):tl ((newAts (L s) 1 1 0).drop k)= (L s).drop k:=by
 have h1:=Tzx s ha k ((newAts (L s) 1 1 0).length+ (L s).length)
 rw[List.take_of_length_le (by rw[List.length_drop]; omega),List.take_of_length_le (by rw[List.length_drop]; omega)]at h1
 exact h1
theorem Twd (N:List At):∀(sp:List Nat) (k:Nat),tl (ils N (newAts (L s) 1 1 0) sp k)=bls (tl N) (L s) sp k
 | [],k=>Twc s ha k
 | a::sp,k=>by rw[ils,bls,Tjr,Tjr,Tzx s ha,Twd N sp a]
end
theorem Tqm (rev:Int)(u:List Int)(N z:List At)(hz:∀ a∈z,a.vis rev u=true)(hN:∀ a∈N,a.vis rev u=true):∀(sp:List Nat) (k:Nat),txtF rev u (ils N z sp k)=tl (ils N z sp k)
 | [],k=>Tfg rev u _ fun a ha=>hz a (List.mem_of_mem_drop ha)
 | s::sp,k=>by
  rw[ils,Tbj,Tbj,Tqm rev u N z hz hN sp s,Tjr,Tjr,Tfg rev u _ hN,Tfg rev u _ fun a ha=>hz a (List.mem_of_mem_drop (List.mem_of_mem_take ha))]
theorem Tmv (rev:Int)(u:List Int)(N z:List At)(hz:∀ a∈z,a.vis rev u=true)(hN:∀ a∈N,a.vis rev u=false):∀(sp:List Nat) (k:Nat),inc z.length sp k->txtF rev u (ils N z sp k)=tl (z.drop k)
 | [],k,h=>Tfg rev u _ fun a ha=>hz a (List.mem_of_mem_drop ha)
 | s::sp,k,h=>by
  have hk:=h.1
  rw[ils,Tbj,Tbj,Tmv rev u N z hz hN sp s h.2,Tdu rev u N hN,Tfg rev u _ fun a ha=>hz a (List.mem_of_mem_drop (List.mem_of_mem_take ha)),List.append_nil,← Tjr]
  congr 1
  have:z.drop s= (z.drop k).drop (s-k):=by rw[List.drop_drop]; congr 1; omega
  rw[this,List.take_append_drop]
theorem Tn8 (t z:List UInt8):∀(sp:List Nat) (k:Nat),inc z.length sp k-> (bls t z sp k).length=z.length-k+sp.length*t.length
 | [],k,h=>by rw[bls,List.length_drop]; simp
 | s::sp,k,h=>by
  have h1:=h.1
  have h2:=Tgj _ sp s h.2
  have hm: (sp.length+1)*t.length=sp.length*t.length+t.length:=by rw[Nat.add_mul]; simp
  rw[bls,List.length_append,List.length_append,List.length_take,List.length_drop,Tn8 t z sp s h.2,List.length_cons,hm]
  omega
end Go.Proofs.YtjpibniecllafaaGreat.AM
end
section
namespace Go.Proofs.YtjpibniecllafaaGreat.AM
open Go Go.Proofs.YtjpibniecllafaaGreat.U
theorem Ty4 (s:ByteArray)(hs:s.size<=60)(ha:∀ b∈L s,b.toNat<128)(E:Eng)(h:ErSt (newAts (L s) 1 1 0) 0 E)(t:ByteArray)(ht:t.size<=20)(hv:valid (L t)=true)(sp:List Nat)(hsp:inc s.size sp 0)(hl:sp.length<=8) :
 ∃ E',E.edit 1 2 0 (typeF t (sp.map fun k:Nat=> ((k:Int),(k:Int))))= (2,0,E')/\EOk E'/\E'.fl=0/\E'.fl+ (E'.U.length:Int)-1=2/\L E'.txt=bls (L t) (L s) sp 0/\ ((E'.textAt 1).size:Int)=s.size /\
  (btw E' 1 2).length<=60/\isD s.size (btw E' 1 2)=true/\∀(j:Nat) (hj:j<sp.length),mv2 s.size (btw E' 1 2) ((sp[j]:Nat),(sp[j]:Nat))= ((sp[j]:Nat)+ ((j:Int)+1)*t.size,(sp[j]:Nat)+ ((j:Int)+1)*t.size):=by
 have hvs:valid (L s)=true:=Tca _ ha
 have hA:=ErA.of s hs hvs
 have hlen:=T20 s ha
 have hone:=T21 s ha
 have hok:=h.ok hA (Nat.zero_le _)
 have hE:E.l=newAts (L s) 1 1 0:=h.er.all
 have htl:=Tik s hvs
 have hL:L (E.textAt 1)=L s:=by
  have:=h.at_ hA 1 (by omega)
  rw[Nat.sub_zero,List.take_length,htl]at this
  exact this
 have hts:E.textAt 1=s:=L_inj hL
 have hc:typeF t (sp.map fun k:Nat=> ((k:Int),(k:Int)))=sp.map fun k:Nat=> (⟨(k:Int),(k:Int),t⟩:Ch):=by
  unfold typeF
  rw[List.map_map]
  apply List.map_congr_left
  intro k _
  show(⟨loR ((k:Int),(k:Int)),hiR ((k:Int),(k:Int)),t⟩:Ch)=_
  unfold loR hiR
  rw[Int.min_self,Int.max_self]
 have hmul: (sp.length:Int)* (t.size:Int)<=160:=by
  have h1: (sp.length:Int)* (t.size:Int)<=8* (t.size:Int):=Int.mul_le_mul_of_nonneg_right (by omega) (by omega)
  omega
 have hm0: (0:Int)<= (sp.length:Int)* (t.size:Int):=Int.mul_nonneg (by omega) (by omega)
 have hk:chk s (sp.map fun k:Nat=> (⟨(k:Int),(k:Int),t⟩:Ch))=0:=by
  refine Tpo ⟨hvs,by simpa using hl,?_,?_,Tql _ t sp 0 hsp,?_,?_⟩
  · intro c hcm
    obtain⟨k,hkm,rfl⟩:=List.mem_map.1 hcm
    have:=Tgb _ sp 0 hsp k hkm
    simp; omega
  · intro c hcm
    obtain⟨k,hkm,rfl⟩:=List.mem_map.1 hcm
    have:=Tgb _ sp 0 hsp k hkm
    exact⟨Tek s ha k (by omega),Tek s ha k (by omega)⟩
  · intro c hcm
    obtain⟨k,hkm,rfl⟩:=List.mem_map.1 hcm
    exact hv
  · unfold lng
    rw[Tv9,Tqk t sp _ (by omega)]
    simp; omega
 have hk2:chk (txtS 1 [] (newAts (L s) 1 1 0)) (sp.map fun k:Nat=> (⟨(k:Int),(k:Int),t⟩:Ch))=0:=by
  have:txtS 1 [] (newAts (L s) 1 1 0)=s:=by
   have e:=hts
   unfold Eng.textAt at e
   rw[h.ut,hE]at e
   exact e
  rw[this]; exact hk
 have hAv:∀ r:Int,1<=r->∀ a∈newAts (L s) 1 1 0,a.vis r []=true:=fun r hr a ham=>Teh (hA.new a ham) r hr [] (by decide)
 have hNf:∀ a∈newAts (L t) 2 2 0,a.vis 1 []=false/\a.vis 2 []=true:=by
  intro a ham
  obtain⟨q1,q2,q3,_⟩:=Tev ham
  have e1:holdsF 2 []=true:=by decide
  unfold At.vis
  rw[q1,q2,q3,e1]
  exact⟨by simp,by simp⟩
 have hNo:okTx (newAts (L t) 2 2 0):=Tfh _ _ _ _
 have hNt:tl (newAts (L t) 2 2 0)=L t:=by rw[Tuz,Tbd _ hv]
 have hspots:spotsF (newAts (L s) 1 1 0) 1 [] (sp.map fun k:Nat=> (⟨(k:Int),(k:Int),t⟩:Ch)) 0=sp.map fun k:Nat=> (k:Int):=by
  unfold spotsF
  rw[if_pos hk2,List.map_map]
  apply List.map_congr_left
  intro k hkm
  have hb:=Tgb _ sp 0 hsp k hkm
  show((spotF 1 [] 0 (newAts (L s) 1 1 0) (places 1 [] (newAts (L s) 1 1 0)) (k:Int):Nat):Int)=k
  rw[Tsh 1 [] 0 _ (hAv 1 (by omega)) hA.ok hone k (by
   have e:txtS 1 [] (newAts (L s) 1 1 0)=s:=by
    have e:=hts
    unfold Eng.textAt at e
    rw[h.ut,hE]at e
    exact e
   rw[e]; exact Tek s ha k (by omega)) (by omega)]
 have hup:E.upon 1 2 0 (sp.map fun k:Nat=> (⟨(k:Int),(k:Int),t⟩:Ch))=ils (newAts (L t) 2 2 0) (newAts (L s) 1 1 0) sp 0:=by
  unfold Eng.upon
  rw[h.ut,hE,h.hfl,h.hU,List.length_replicate,show((0:Int)+ ((0+2:Nat):Int))=2 by omega,Tgx _ _ _ _ _ _ _ hk2,Tnv _ _ _ _ _ (fun x hx=>by
   obtain⟨k,_,rfl⟩:=List.mem_map.1 hx
   exact Int.le_refl _),hspots,Tv4]
 have hU:E.U++ [lastS E.U]=List.replicate 3 []:=by rw[h.hU,Td5,Tgy]
 have hT:∀ G F,L (Eng.txt ⟨ils (newAts (L t) 2 2 0) (newAts (L s) 1 1 0) sp 0,E.U++ [lastS E.U],E.fl,G,F⟩)=bls (L t) (L s) sp 0:=by
  intro G F
  show L (headT (ils (newAts (L t) 2 2 0) (newAts (L s) 1 1 0) sp 0) (E.U++ [lastS E.U]) E.fl)=_
  rw[hU,h.hfl,Tid,show L (txtS (((3:Nat):Int)-1) [] _)=txtF (((3:Nat):Int)-1) [] _ from L_mk _,show((3:Nat):Int)-1=2 from rfl,Tqm 2 [] _ _ (hAv 2 (by omega)) (fun a ha=> (hNf a ha).2),Twd s ha,hNt]
 have hbl:=Tn8 (L t) (L s) sp 0 (by rw[L_len]; exact hsp)
 rw[L_len,L_len]at hbl
 have hsz: (bls (L t) (L s) sp 0).length<=220:=by
  have:sp.length*t.size<=8*20:=Nat.mul_le_mul hl ht
  omega
 have hlv: (ils (newAts (L t) 2 2 0) (newAts (L s) 1 1 0) sp 0).length<=4000:=by
  have hoki:okTx (ils (newAts (L t) 2 2 0) (newAts (L s) 1 1 0) sp 0):=by rw[← hup]; exact Tnw hok.tx _ _ _ _ _ _
  have h1:=Tf9 hoki
  rw[← Tdg,Twd s ha,hNt]at h1
  omega
 have hed:=Eng.edit_good E 1 2 0 (sp.map fun k:Nat=> (⟨(k:Int),(k:Int),t⟩:Ch)) _ (by rw[h.hd,h.hfl]; omega) (by rw[hts]; exact hk) (by rw[h.hF]; simp) (by have:=h.hd; omega) (by omega) hup hlv (by
  have:=hT (insS 2 E.G) E.F
  have h2:=congrArg List.length this
  rw[L_len]at h2
  show(Eng.txt ⟨ils (newAts (L t) 2 2 0) (newAts (L s) 1 1 0) sp 0,E.U++ [lastS E.U],E.fl,insS 2 E.G,E.F⟩).size<=20000
  omega)
 have okE:=hok.edit 1 2 0 (sp.map fun k:Nat=> (⟨(k:Int),(k:Int),t⟩:Ch))
 rw[hed]at okE
 have hut:∀ r,Eng.ut ⟨ils (newAts (L t) 2 2 0) (newAts (L s) 1 1 0) sp 0,E.U++ [lastS E.U],E.fl,insS 2 E.G,E.F⟩ r= []:=by
  intro r
  unfold Eng.ut
  rw[hU]; exact Tfi _ _ _
 have hsz1: (((Eng.textAt ⟨ils (newAts (L t) 2 2 0) (newAts (L s) 1 1 0) sp 0,E.U++ [lastS E.U],E.fl,insS 2 E.G,E.F⟩ 1).size:Nat):Int)=s.size:=by
  rw[← L_len]
  unfold Eng.textAt
  rw[hut,show L (txtS 1 [] (ils (newAts (L t) 2 2 0) (newAts (L s) 1 1 0) sp 0))=txtF 1 [] (ils (newAts (L t) 2 2 0) (newAts (L s) 1 1 0) sp 0)from L_mk _,Tmv 1 [] _ _ (hAv 1 (by omega)) (fun a ha=> (hNf a ha).1) sp 0 (by rw[hlen]; exact hsp),Twc s ha,List.drop_zero,L_len]
 have hbt:btw ⟨ils (newAts (L t) 2 2 0) (newAts (L s) 1 1 0) sp 0,E.U++ [lastS E.U],E.fl,insS 2 E.G,E.F⟩ 1 2= (bwAll 1 2 [] [] (ils (newAts (L t) 2 2 0) (newAts (L s) 1 1 0) sp 0) ([],0)).1:=by
  unfold btw
  rw[hut,hut]
 have hs0:=Tgj _ sp 0 hsp
 refine⟨_,by rw[hc,hed,show E.fl+ (E.U.length:Int)=2 by have:=h.hd; omega],okE,h.hfl,?_,hT _ _,hsz1,?_⟩
 · show E.fl+ ((E.U++ [lastS E.U]).length:Int)-1=2
   rw[hU,h.hfl]; rfl
 · by_cases c:1<=t.size
   · have hN0:newAts (L t) 2 2 0≠ []:=by
      intro e
      rw[e]at hNt
      have:=congrArg List.length hNt
      rw[L_len]at this
      simp[tl]at this
      omega
     have hb:=Tzv 1 2 [] [] (newAts (L t) 2 2 0) (newAts (L s) 1 1 0) t (fun a ha=> ⟨hAv 1 (by omega) a ha,hAv 2 (by omega) a ha⟩) hone hNf hN0 hNo hNt.symm sp 0 [] (fun x hx=>by simp at hx) (by rw[hlen]; exact hsp)
     rw[List.nil_append,hlen]at hb
     rw[show((0:Nat):Int)= (0:Int)from rfl]at hb
     rw[hbt,hb]
     refine⟨by rw[Tn7]; omega,?_,?_⟩
     · have:=Tv5 t c hv s.size sp 0 0 none rfl (fun _=>rfl) hsp (by omega) (by omega)
       have e2: (dls t s.size sp 0).length<=60:=by rw[Tn7]; omega
       have e3: (s.size:Int)<=20000:=by omega
       unfold isD
       rw[show((0:Nat):Int)= (0:Int)from rfl]at this
       simp[this,e2]
       omega
     · intro j hj
       obtain⟨g1,g2,g3⟩:=Tv6 t c s.size sp 0 0 0 j hj hsp
       unfold mv2 moveF
       have e1:min (max ((sp[j]:Nat):Int) 0) s.size= (sp[j]:Nat):=by omega
       simp only[e1,if_true]
       have: ((0:Nat):Int)=0:=rfl
       rw[g1,this]
       simp
   · have h0:t.size=0:=by omega
     have hN0:newAts (L t) 2 2 0= []:=by
      have h1:=Tf9 hNo
      rw[← Tdg,hNt,L_len,h0]at h1
      exact List.length_eq_zero_iff.1 (by omega)
     have hil:∀(sp:List Nat) (k:Nat),inc s.size sp k->ils [] (newAts (L s) 1 1 0) sp k= (newAts (L s) 1 1 0).drop k:=by
      intro sp
      induction sp with
      | nil=>intro k _; rfl
      | cons a sp ih =>
       intro k hk
       have hk1:=hk.1
       rw[ils,ih a hk.2,List.append_nil]
       have: (newAts (L s) 1 1 0).drop a= ((newAts (L s) 1 1 0).drop k).drop (a-k):=by rw[List.drop_drop]; congr 1; omega
       rw[this,List.take_append_drop]
     have hne:newAts (L s) 1 1 0≠ []:=by
      intro e
      rw[e]at hlen
      simp at hlen
      omega
     have hb:=Tk2 1 2 [] [] (newAts (L s) 1 1 0) hne [] 0 (fun x hx=>by simp at hx) (fun a ha=> ⟨hAv 1 (by omega) a ha,hAv 2 (by omega) a ha⟩)
     rw[Tg1 hone,hlen,List.nil_append,Int.zero_add]at hb
     rw[hbt,hN0,hil sp 0 hsp,List.drop_zero,hb]
     refine⟨by simp,Tzq _ _ (by omega) (Int.le_refl _) (by omega),?_⟩
     intro j hj
     have hb:=Tgb _ sp 0 hsp sp[j] (List.getElem_mem hj)
     unfold mv2 moveF mvL
     have e1:min (max ((sp[j]:Nat):Int) 0) s.size= (sp[j]:Nat):=by omega
     have e2:¬ (sp[j]:Int)<=0:=by omega
     have e3:sp[j]<s.size:=by omega
     have e4:min (s.size:Int) (sp[j]:Nat)= (sp[j]:Nat):=by omega
     have e5:¬ sp[j]=0:=by omega
     have e6:min ((sp[j]:Nat):Int) s.size= (sp[j]:Nat):=by omega
     simp[cpE,e1,e2,e3,e4,e5,e6,h0]
end Go.Proofs.YtjpibniecllafaaGreat.AM
end
