/- Made by pack.py: more of it. No condition but what each says. -/
import Derived.Test.YtjpibniecllafaaGreatC17
import Derived.Test.YtjpibniecllafaaGreatC16
set_option linter.unusedSimpArgs false
set_option linter.unusedVariables false
set_option maxHeartbeats 16000000
section
namespace Go.Proofs.YtjpibniecllafaaGreat.AM
open Go Go.Proofs.YtjpibniecllafaaGreat.U
variable {cp:List PV->Option Ret}
def mv2 (base:Int)(e:List Ch)(r:Int×Int):Int×Int:= (moveF base e r.1 true,moveF base e r.2 true)
theorem Tsa (D:List (List PV))(base:Int)(R T:List (List PV))(n i:Nat)(a c a' c':Int)(res:Option (Out×St))(hR:R.length=n)(hn:n<=8)(hi:i<n)(hT:T.length=i)(h1:R[i]?=some [pi a,pi c])
 (m1:Run (EX cp) 135 [.st [pi base,.sl 3 D],pi a,pb true]=some (.val (pi a'))) (m2:Run (EX cp) 135 [.st [pi base,.sl 3 D],pi c,pb true]=some (.val (pi c')))
 (ih:Code (EX cp) L_region_Move_0 ⟨[(3,.mp 3 0 0),(7,.ms 7 0 (i+1)),(29,.p (.sl 2 R)),(30,.p (pi n)),(31,.p (pi ((i:Int)+1)))],[(3,.row 131 2 true [[pi base,.sl 3 D]]),(7,.row 41 2 false (T++ [[pi a',pi c']]))]⟩=res) :
 Code (EX cp) L_region_Move_0 ⟨[(3,.mp 3 0 0),(7,.ms 7 0 i),(29,.p (.sl 2 R)),(30,.p (pi n)),(31,.p (pi i))],[(3,.row 131 2 true [[pi base,.sl 3 D]]),(7,.row 41 2 false T)]⟩=res:=by
 rw[← ih]
 conv=>lhs; rw[L_region_Move_0,Taf]
 simp(maxSteps:=1000000) (disch:=omega) [hR,hi,hT,h1,m1,m2,maxBytes,Taa,Tad,Tab,Taj,-getElem?_pos]
 rw[L_region_Move_0]
theorem T2x {n:Int}{r:Int×Int}(h:insB n r=true)(hn:n<=20000):0<=r.1/\r.1<=n/\0<=r.2/\r.2<=n:=by
 unfold insB ivB loR hiR at h
 simp only[Bool.and_eq_true,decide_eq_true_eq]at h
 omega
theorem Tjs (base:Int)(e:List Ch)(hd:isD base e=true)(l:List (Int×Int))(hl:l.length<=8)(hin:∀ r∈l,insB base r=true):∀(m i:Nat),m+i=l.length ->
 Code (EX cp) L_region_Move_0 ⟨[(3,.mp 3 0 0),(7,.ms 7 0 i),(29,.p (.sl 2 (cutsL l))),(30,.p (pi l.length)),(31,.p (pi i))],[(3,.row 131 2 true [[pi base,.sl 3 (chs e)]]),(7,.row 41 2 false (cutsL ((l.take i).map (mv2 base e))))]⟩ =
  some (.ex 0,⟨[(3,.mp 3 0 0),(7,.ms 7 0 l.length),(29,.p (.sl 2 (cutsL l))),(30,.p (pi l.length)),(31,.p (pi l.length)),(32,.p (pb false))],[(3,.row 131 2 true [[pi base,.sl 3 (chs e)]]),(7,.row 41 2 false (cutsL (l.map (mv2 base e))))]⟩)
 | 0,i,hm=>by
  obtain rfl:i=l.length:=by omega
  rw[L_region_Move_0,Taf,List.take_length]
  generalize cutsL (l.map (mv2 base e))=O at *
  generalize cutsL l=R at *
  generalize l.length=z at *
  simp(disch:=omega)[Tad,-getElem?_pos]
 | m+1,i,hm=>by
  have hi:i<l.length:=by omega
  obtain⟨b0,b1,_,_⟩:=Tde hd
  obtain⟨r1,r2,r3,r4⟩:=T2x (hin _ (List.getElem_mem hi)) b1
  refine Tsa (chs e) base (cutsL l) (cutsL ((l.take i).map (mv2 base e))) l.length i l[i].1 l[i].2 _ _ _ (Taq l) hl hi (by rw[Taq,List.length_map,List.length_take]; omega) (Tds l i hi) (runMoveO base e hd _ ⟨by omega,by omega⟩ true) (runMoveO base e hd _ ⟨by omega,by omega⟩ true) ?_
  have ih:=Tjs base e hd l hl hin m (i+1) (by omega)
  have esn:cutsL ((l.take (i+1)).map (mv2 base e))=cutsL ((l.take i).map (mv2 base e))++ [[pi (moveF base e l[i].1 true),pi (moveF base e l[i].2 true)]]:=by
   have ea:∀ a b:List (Int×Int),cutsL (a++b)=cutsL a++cutsL b:=fun a b=>by simp[cutsL]
   rw[List.take_add_one,List.getElem?_eq_getElem hi,List.map_append,ea]
   rfl
  rw[esn]at ih
  exact ih
theorem runRegMove (base:Int)(e:List Ch)(hd:isD base e=true)(l:List (Int×Int))(h1:1<=l.length)(hl:l.length<=8)(hin:∀ r∈l,insB base r=true)(ho:apB (l.map (mv2 base e))=true) :
 Run (EX cp) 77 [.sl 2 (cutsL l),.st [pi base,.sl 3 (chs e)]]=some (.val (.tu [.sl 2 (cutsL (l.map (mv2 base e))),pi 0])):=by
 obtain⟨b0,b1,b2,b3⟩:=Tde hd
 have bd:=Teg base b1 e 0 0 none b3 (Int.le_refl _)
 have d1:=runIs (cp:=cp) base e (by omega) (fun x hx=>by have:=bd x hx; omega)
 rw[hd]at d1
 have d2:=runEvery (cp:=cp) l (by omega) 132 [.pt [pi base,.sl 3 (chs e)]] (insB base) fun r _=>runMove1 base (chs e) r
 rw[List.all_eq_true.2 hin]at d2
 have d3:=runCountR (cp:=cp) l
 rw[if_neg (by omega),if_neg (by omega)]at d3
 have d4:=Tjs (cp:=cp) base e hd l hl hin l.length 0 (by omega)
 rw[List.take_zero,show((0:Nat):Int)=0 from rfl,List.map_nil,show cutsL []= []from rfl]at d4
 have hml: (l.map (mv2 base e)).length=l.length:=List.length_map ..
 have d5:=runApart (cp:=cp) (l.map (mv2 base e)) (by rw[hml]; exact h1) (by rw[hml]; exact hl) ho
 have hbl:=Taq l
 have hol: (cutsL (l.map (mv2 base e))).length=l.length:=by rw[Taq,hml]
 have htk: (cutsL (l.map (mv2 base e))).take l.length=cutsL (l.map (mv2 base e)):=List.take_of_length_le (by rw[hol]; exact Nat.le_refl _)
 have hz:¬ l= []:=fun e=>by rw[e]at h1; simp at h1
 rw[Tah _ A_region_Move _ rfl rfl rfl]
 generalize cutsL (l.map (mv2 base e))=O at *
 generalize cutsL l=R at *
 generalize chs e=D at *
 simp(disch:=omega)[A_region_Move,d1,d2,d3,d4,d5,hbl,hol,htk,hz,Taa,Tad,Taj]
end Go.Proofs.YtjpibniecllafaaGreat.AM
end
section
namespace Go.Proofs.YtjpibniecllafaaGreat.AM
open Go Go.Proofs.YtjpibniecllafaaGreat.U
structure DOk (E:Eng) (fr to_:Int) (b p:Int):Prop where
 sz: ((E.textAt fr).size:Int)=b
 is:isD b (btw E fr to_)=true
 len: (btw E fr to_).length<=60
 mv:mv2 b (btw E fr to_) (b,b)= (p,p)
theorem T2y (fr to_:Int)(u v:List Int)(P R:List At)(hp:∀ a∈P,a.vis fr u=true/\a.vis to_ v=true)(hr:∀ a∈R,a.vis to_ v=false)(ho:okTx P) :
 ((bwAll fr to_ u v (P++R) ([],0)).1= []/\szN P=0)∨ ((bwAll fr to_ u v (P++R) ([],0)).1= [⟨0,(szN P:Nat),⟨#[]⟩⟩]/\1<=szN P):=by
 rw[Tvc,Tny fr to_ u v R _ hr]
 cases P with
 | nil=>exact Or.inl ⟨rfl,rfl⟩
 | cons a l =>
  right
  have h1:=ho.size a (List.mem_cons_self ..)
  have h3:szN (a::l)=a.txt.size+szN l:=by simp[szN]
  rw[Tyt fr to_ u v a l hp,Tn5]
  exact⟨rfl,by omega⟩
theorem ErSt.step {A:List At}{i:Nat}{E:Eng}(hA:ErA A)(h:ErSt A i E)(hi:i<A.length) :
 ∃ E',E.edit (i+1) 2 0 [⟨(szN (A.take (A.length-i-1)):Nat),(szN (A.take (A.length-i)):Nat),⟨#[]⟩⟩]= ((i:Int)+2,0,E')/\ErSt A (i+1) E'/\DOk E' (i+1) (i+2) (szN (A.take (A.length-i)):Nat) (szN (A.take (A.length-i-1)):Nat):=by
 have hlen:=h.er.len (Nat.le_of_lt hi)
 have h60:=Tf9 hA.ok
 have hsz:=hA.sz
 obtain⟨P,a,Q,hP,ha,hl,ht,hQ,hE'⟩:=Era.step hA.new h.er hi
 have hPm:∀ b∈P,b∈A:=fun b hb=>by rw[hP]at hb; exact List.mem_of_mem_take hb
 have ham:a∈A:=by rw[ha]; exact List.getElem_mem _
 have hPv:∀ r:Int,1<=r->∀ b∈P,b.vis r []=true:=fun r hr b hb=>Teh (hA.new b (hPm b hb)) r hr [] (by decide)
 have hav:∀ r:Int,1<=r->a.vis r []=true:=fun r hr=>Teh (hA.new a ham) r hr [] (by decide)
 have hQv:∀ r:Int,(i:Int)+1<=r->∀ b∈Q,b.vis r []=false:=fun r hr b hb=>by
  obtain⟨q1,q2,c,q3,q4,q5⟩:=hQ b hb
  exact Tdf ⟨q1,q2,q3⟩ r (by omega)
 have hok:okTx P:=fun b hb=>hA.ok b (hPm b hb)
 have hoa:okTx [a]:=fun b hb=>by rw[List.mem_singleton]at hb; subst hb; exact hA.ok _ ham
 have has:=hA.ok.size a ham
 have hL:L (E.textAt (i+1))=tl P++L a.txt:=by rw[h.at_ hA (i+1) (Int.le_refl _),ht,Tjr,Tzt]
 have hS: (E.textAt (i+1)).size=szN (A.take (A.length-i)):=by rw[← L_len,h.at_ hA (i+1) (Int.le_refl _),Tdg]
 have hSl:=Tk1 A (A.length-i)
 have hPs:szN (A.take (A.length-i))=szN P+a.txt.size:=by rw[ht,Tvs,T2s]
 rw[← hP]
 have vP:valid (tl P)=true:=Tgz hok
 have va:valid (L a.txt)=true:=by rw[← Tzt]; exact Tgz hoa
 have hvt:valid (L (E.textAt (i+1)))=true:=by rw[hL,Td1 vP]; exact va
 have e1:edge (E.textAt (i+1)) (szN P:Nat)=true:=by
  have:=Tk0 _ _ _ hL vP va
  rwa[Tdg]at this
 have e2:edge (E.textAt (i+1)) ((E.textAt (i+1)).size:Nat)=true:=by
  have:=Tk0 (E.textAt (i+1)) (L (E.textAt (i+1))) [] (by rw[List.append_nil]) hvt Ta0
  rwa[L_len]at this
 have hk:=Tyr (E.textAt (i+1)) hvt (by omega) (szN P:Nat) (by omega) (by omega) e1 e2
 rw[hS]at hk
 have hk':=hk
 unfold Eng.textAt at hk'
 rw[h.ut,hl]at hk'
 have hup:E.upon (i+1) 2 0 [⟨(szN P:Nat),(szN (A.take (A.length-i)):Nat),⟨#[]⟩⟩]=P++cutAt a (i+2) 2::Q:=by
  unfold Eng.upon
  rw[h.ut,hl,h.hfl,h.hU,List.length_replicate,show((0:Int)+ ((i+2:Nat):Int))= (i:Int)+2 by omega]
  exact Trp _ [] _ 2 0 a P Q _ (hav _ (by omega)) (hQv _ (by omega)) (fun b hb=> ⟨hPv _ (by omega) b hb,(hok.size b hb).1⟩) (by omega) hk'
 have hU:E.U++ [lastS E.U]=List.replicate (i+1+2) []:=by rw[h.hU,Td5,Tgy]
 have hG:insS 2 E.G=if i+1=0 then[1]else[1,2]:=by
  have e:¬ i+1=0:=by omega
  by_cases c:i=0
  · rw[h.hG,if_pos c,if_neg e]; decide
  · rw[h.hG,if_neg c,if_neg e]; decide
 have hll: (P++cutAt a (i+2) 2::Q).length=A.length:=hE'.len hi
 have st:ErSt A (i+1) ⟨P++cutAt a (i+2) 2::Q,E.U++ [lastS E.U],E.fl,insS 2 E.G,E.F⟩:= ⟨hE',hU,h.hfl,hG,h.hF⟩
 have hsz': (headT (P++cutAt a (i+2) 2::Q) (E.U++ [lastS E.U]) E.fl).size<=20000:=by
  have:=st.size hA
  have h9:=Tk1 A (A.length- (i+1))
  show(Eng.txt ⟨P++cutAt a (i+2) 2::Q,E.U++ [lastS E.U],E.fl,insS 2 E.G,E.F⟩).size<=20000
  omega
 have hed:=Eng.edit_good E (i+1) 2 0 _ _ (by rw[h.hd,h.hfl]; omega) hk (by rw[h.hF]; simp) (by have:=h.hd; omega) (by omega) hup (by omega) hsz'
 refine⟨_,by rw[hed,show E.fl+ (E.U.length:Int)= (i:Int)+2 by have:=h.hd; omega],st,?_⟩
 have hca:a.rv=1/\a.gr=1/\a.cuts= []:=hA.new a ham
 have hcut: (cutAt a (i+2) 2).rv=1/\ (cutAt a (i+2) 2).gr=1/\ (cutAt a (i+2) 2).cuts= [((i:Int)+2,2)]:=by
  refine⟨hca.1,hca.2.1,?_⟩
  show a.cuts++ [((i:Int)+2,2)]=_
  rw[hca.2.2]; rfl
 have hts:txtF (i+1) [] (P++cutAt a (i+2) 2::Q)=tl (P++ [a]):=by
  have e:tl (P++ [a])=tl (P++ [cutAt a (i+2) 2]):=Tvt (by simp[cutAt])
  rw[e,show P++cutAt a (i+2) 2::Q= (P++ [cutAt a (i+2) 2])++Q by simp]
  refine Tmg _ [] _ _ (fun b hb=> ?_) (hQv _ (by omega))
  rcases List.mem_append.1 hb with hb | hb
  · exact hPv _ (by omega) b hb
  · rw[List.mem_singleton]at hb
    subst hb
    exact Tr9 hcut _ (by omega) (by omega)
 have hb:=T2y (i+1) (i+2) [] [] P (cutAt a (i+2) 2::Q) (fun b hb=> ⟨hPv _ (by omega) b hb,hPv _ (by omega) b hb⟩) (fun b hb=>by
  rcases List.mem_cons.1 hb with rfl | hb
  · exact Tdf hcut _ (by omega)
  · exact hQv _ (by omega) b hb) hok
 have hbt:∀ fr to_:Int,btw ⟨P++cutAt a (i+2) 2::Q,E.U++ [lastS E.U],E.fl,insS 2 E.G,E.F⟩ fr to_= (bwAll fr to_ [] [] (P++cutAt a (i+2) 2::Q) ([],0)).1:=by
  intro fr to_
  unfold btw
  rw[st.ut,st.ut]
 have hsz1: (((Eng.textAt ⟨P++cutAt a (i+2) 2::Q,E.U++ [lastS E.U],E.fl,insS 2 E.G,E.F⟩ (i+1)).size:Nat):Int)= (szN (A.take (A.length-i)):Nat):=by
  rw[← L_len]
  unfold Eng.textAt
  rw[st.ut,show L (txtS (i+1) [] (P++cutAt a (i+2) 2::Q))=txtF (i+1) [] (P++cutAt a (i+2) 2::Q)from L_mk _,hts,Tdg,← ht]
 rcases hb with⟨hb,hz⟩ | ⟨hb,hz⟩
 · refine⟨hsz1,?_,?_,?_⟩
   · rw[hbt,hb]; exact Tn1 _ (by omega) (by omega)
   · rw[hbt,hb]; simp
   · rw[hbt,hb]
     unfold mv2
     rw[Tvf _ _ (by omega),hz]; rfl
 · refine⟨hsz1,?_,?_,?_⟩
   · rw[hbt,hb]; exact Tzq _ _ (by omega) (by omega) (by omega)
   · rw[hbt,hb]; simp
   · rw[hbt,hb]
     unfold mv2
     rw[mv_cp _ _ _ (by omega) (by omega) (by omega)]
theorem ErA.of (s:ByteArray)(hs:s.size<=60)(hv:valid (L s)=true):ErA (newAts (L s) 1 1 0):=by
 refine⟨Tfh _ _ _ _,fun a ha=> ?_,?_⟩
 · obtain⟨q1,q2,q3,_⟩:=Tev ha
   exact⟨q2,q3,q1⟩
 · rw[← Tdg,Tuz,Tbd _ hv,L_len]; exact hs
theorem Tik (s:ByteArray)(hv:valid (L s)=true):tl (newAts (L s) 1 1 0)=L s:=by rw[Tuz,Tbd _ hv]
theorem Tzu (fr to_:Int)(u v:List Int)(A:List At)(hA:okTx A)(h:∀ a∈A,a.vis fr u=false/\a.vis to_ v=true) :
 ((bwAll fr to_ u v A ([],0)).1= []/\A= [])∨∃ e,(bwAll fr to_ u v A ([],0)).1= [⟨0,0,e⟩]/\L e=tl A/\1<=e.size:=by
 cases A with
 | nil=>exact Or.inl ⟨rfl,rfl⟩
 | cons a l =>
  right
  have h1:=hA.size a (List.mem_cons_self ..)
  have ha:=h a (List.mem_cons_self ..)
  have e:bwStep ([],0) a.txt (a.vis fr u) (a.vis to_ v)= ([⟨0,0,a.txt⟩],0):=by
   rw[ha.1,ha.2]; simp[bwStep,dPt]
  obtain⟨p',h2,h3⟩:=Tve fr to_ u v l a.txt 0 h1.1 fun b hb=>h b (List.mem_cons_of_mem _ hb)
  refine⟨p',by rw[Tdt,e,h3],?_,?_⟩
  · rw[h2]; simp[tl]
  · rw[← L_len,h2,List.length_append,L_len]; omega
theorem Tyz (s:ByteArray)(hs:s.size<=60)(hv:valid (L s)=true):∃ E',Eng.new.edit 0 1 0 [⟨0,0,s⟩]= (1,0,E')/\ErSt (newAts (L s) 1 1 0) 0 E'/\DOk E' 0 1 0 s.size:=by
 have hA:=ErA.of s hs hv
 obtain⟨c0,c1⟩:=Tjn s 1 1 0 hv (by omega)
 have hl: (newAts (L s) 1 1 0).length<=60:=by
  rw[Ted]
  have:=Tda (L s)
  rw[L_len]at this; omega
 have st:ErSt (newAts (L s) 1 1 0) 0 ⟨newAts (L s) 1 1 0,List.replicate 2 [],0,[1],[]⟩:= ⟨Era.zero _,rfl,rfl,rfl,rfl⟩
 have hz:=st.size hA
 have h9:=Tk1 (newAts (L s) 1 1 0) ((newAts (L s) 1 1 0).length-0)
 have hsz:=hA.sz
 have hed:=Eng.edit_good Eng.new 0 1 0 _ (newAts (L s) 1 1 0) (by simp[Eng.new]) c0 (by simp[Eng.new]) (by simp[Eng.new]) (by omega) c1 (by omega) (by
  show(Eng.txt ⟨newAts (L s) 1 1 0,List.replicate 2 [],0,[1],[]⟩).size<=20000
  omega)
 refine⟨_,hed,st,?_⟩
 have hbt:btw ⟨newAts (L s) 1 1 0,List.replicate 2 [],0,[1],[]⟩ 0 1= (bwAll 0 1 [] [] (newAts (L s) 1 1 0) ([],0)).1:=by
  unfold btw
  rw[st.ut,st.ut]
 have hb:=Tzu 0 1 [] [] (newAts (L s) 1 1 0) hA.ok fun a ha=> ⟨by
  have:=hA.new a ha
  unfold At.vis
  rw[this.1]; simp,Teh (hA.new a ha) 1 (by omega) [] (by decide)⟩
 have hsz1: (((Eng.textAt ⟨newAts (L s) 1 1 0,List.replicate 2 [],0,[1],[]⟩ 0).size:Nat):Int)=0:=by
  rw[← L_len]
  unfold Eng.textAt
  rw[st.ut,show L (txtS 0 [] (newAts (L s) 1 1 0))=txtF 0 [] (newAts (L s) 1 1 0)from L_mk _,Tdu 0 [] _ fun a ha=>by
   have:=hA.new a ha
   unfold At.vis
   rw[this.1]; simp]
  rfl
 have hsA:szN (newAts (L s) 1 1 0)=s.size:=by rw[← Tdg,Tik s hv,L_len]
 rcases hb with⟨hb,hn⟩ | ⟨e,hb,he,h1⟩
 · have h0:s.size=0:=by rw[← hsA,hn]; rfl
   refine⟨hsz1,?_,?_,?_⟩
   · show isD 0 (btw ⟨newAts (L s) 1 1 0,List.replicate 2 [],0,[1],[]⟩ 0 1)=true
     rw[hbt,hb]; exact Tn1 _ (by omega) (by omega)
   · show(btw ⟨newAts (L s) 1 1 0,List.replicate 2 [],0,[1],[]⟩ 0 1).length<=60
     rw[hbt,hb]; simp
   · show mv2 0 (btw ⟨newAts (L s) 1 1 0,List.replicate 2 [],0,[1],[]⟩ 0 1) (0,0)=_
     rw[hbt,hb]
     unfold mv2
     rw[Tvf _ _ (by omega),h0]; rfl
 · have hes:e.size=s.size:=by rw[← L_len,he,Tik s hv,L_len]
   have hve:valid (L e)=true:=by rw[he,Tik s hv]; exact hv
   refine⟨hsz1,?_,?_,?_⟩
   · show isD 0 (btw ⟨newAts (L s) 1 1 0,List.replicate 2 [],0,[1],[]⟩ 0 1)=true
     rw[hbt,hb]; exact Tzr _ _ (by omega) (by omega) h1 (by omega) hve
   · show(btw ⟨newAts (L s) 1 1 0,List.replicate 2 [],0,[1],[]⟩ 0 1).length<=60
     rw[hbt,hb]; simp
   · show mv2 0 (btw ⟨newAts (L s) 1 1 0,List.replicate 2 [],0,[1],[]⟩ 0 1) (0,0)=_
     rw[hbt,hb]
     unfold mv2
     rw[mv_pt _ _ _ (by omega) h1,hes]
theorem ErSt.none {A:List At}{E:Eng}(hA:ErA A)(h:ErSt A A.length E):E.txt= ⟨#[]⟩/\DOk E (A.length+1) (A.length+1) 0 0:=by
 have ht:=h.txt hA
 rw[Nat.sub_self,List.take_zero]at ht
 have hL:=h.at_ hA (A.length+1) (Int.le_refl _)
 rw[Nat.sub_self,List.take_zero]at hL
 have hsz1: (((E.textAt (A.length+1)).size:Nat):Int)=0:=by rw[← L_len,hL]; rfl
 have hv:∀ b∈E.l,b.vis (A.length+1) []=false:=by
  obtain⟨Q,h1,h2,h3⟩:=h.er
  rw[Nat.sub_self,List.take_zero,List.nil_append]at h1
  intro b hb
  rw[h1]at hb
  obtain⟨q1,q2,c,q3,q4,q5⟩:=h3 b hb
  exact Tdf ⟨q1,q2,q3⟩ _ (by omega)
 have hb:btw E (A.length+1) (A.length+1)= []:=by
  unfold btw
  rw[h.ut]
  exact Tny _ _ _ _ E.l ([],0) hv
 refine⟨L_inj (by rw[ht]; rfl),hsz1,?_,?_,?_⟩
 · rw[hb]; exact Tn1 _ (by omega) (by omega)
 · rw[hb]; simp
 · rw[hb]; unfold mv2; rw[Tvf _ _ (by omega)]
theorem ErSt.back {A:List At}{E:Eng}(hA:ErA A)(h:ErSt A A.length E)(hn:1<=A.length) :
 ∃ E',E.toggle 2= ((A.length:Int)+2,0,E')/\EOk E'/\E'.fl=0/\E'.fl+ (E'.U.length:Int)-1=A.length+2/\L E'.txt=tl A/\ ((E'.textAt (A.length+1)).size:Int)=0/\isD 0 (btw E' (A.length+1) (A.length+2))=true/\ (btw E' (A.length+1) (A.length+2)).length<=60:=by
 have hok:=h.ok hA (Nat.le_refl _)
 have h60:=Tf9 hA.ok
 have hsz:=hA.sz
 have hU:togU E.U 2=List.replicate (A.length+2) []++ [[2]]:=by
  rw[h.hU]
  show List.replicate (A.length+2) []++ [if 2∈lastS (List.replicate (A.length+2) [])then _ else insS 2 (lastS (List.replicate (A.length+2) []))]=_
  rw[Td5]; rfl
 have hu2:undU (List.replicate (A.length+2) []++ [[2]]) 0 (0+ (List.replicate (A.length+2) ([]:List Int)++ [[2]]).length-1)= [2]:=Tme _ _ _ (Int.le_refl _)
 have hln: (0:Int)+ (List.replicate (A.length+2) ([]:List Int)++ [[2]]).length-1= (A.length:Int)+2:=by simp<;> omega
 rw[hln]at hu2
 have hu1:undU (List.replicate (A.length+2) []++ [[2]]) 0 ((A.length:Int)+1)= []:=by
  unfold undU
  split
  · rw[List.getD_eq_getElem?_getD,List.getElem?_append_left (by simp<;> omega),List.getElem?_replicate]
    split<;> rfl
  · rfl
 have htx:headT E.l (togU E.U 2) E.fl= ⟨(tl A).toArray⟩:=by
  rw[hU,h.hfl]
  unfold headT
  rw[hln,hu2]
  apply L_inj
  rw[show L (txtS _ [2] E.l)=txtF _ [2] E.l from L_mk _,h.er.txtU hA _ (by omega)]
  exact(L_mk _).symm
 have hts: (headT E.l (togU E.U 2) E.fl).size<=20000:=by
  rw[htx,← L_len,show L ⟨(tl A).toArray⟩=tl A from L_mk _,Tdg]; omega
 have htg:=Eng.toggle_good E 2 (by rw[h.hG,if_neg (by omega)]; simp) (by have:=h.hd; omega) hts
 have okT:=hok.toggle 2
 rw[htg]at okT
 refine⟨_,by rw[htg,show E.fl+ (E.U.length:Int)= (A.length:Int)+2 by have:=h.hd; omega],okT,h.hfl,?_,?_,?_,?_⟩
 · show E.fl+ ((togU E.U 2).length:Int)-1=_
   rw[hU,h.hfl,hln]
 · show L (headT E.l (togU E.U 2) E.fl)=tl A
   rw[htx]; exact L_mk _
 · show((txtS (A.length+1) (undU (togU E.U 2) E.fl (A.length+1)) E.l).size:Int)=0
   rw[hU,h.hfl,hu1,← L_len,show L (txtS _ [] E.l)=txtF _ [] E.l from L_mk _,h.er.txt hA _ (Int.le_refl _),Nat.sub_self,List.take_zero]
   rfl
 · obtain⟨Q,h1,h2,h3⟩:=h.er
   rw[Nat.sub_self,List.take_zero,List.nil_append]at h1
   have hb:=Tzu (A.length+1) (A.length+2) [] [2] E.l (h.er.ok hA.ok) fun b hb=>by
    rw[h1]at hb
    obtain⟨q1,q2,c,q3,q4,q5⟩:=h3 b hb
    exact⟨Tdf ⟨q1,q2,q3⟩ _ (by omega),Tif ⟨q1,q2,q3⟩ _ (by omega)⟩
   have hbt:btw ⟨E.l,togU E.U 2,E.fl,E.G,E.F⟩ (A.length+1) (A.length+2)= (bwAll (A.length+1) (A.length+2) [] [2] E.l ([],0)).1:=by
    unfold btw Eng.ut
    simp only
    rw[hU,h.hfl,hu1,hu2]
   have hle: (E.l.length)=A.length:=h.er.len (Nat.le_refl _)
   rcases hb with⟨hb,hn'⟩ | ⟨e,hb,he,h4⟩
   · rw[hn']at hle; simp at hle; omega
   · have hte:tl E.l=tl A:=Tvt (by rw[h1,h2]; simp)
     have hes:e.size=szN A:=by rw[← L_len,he,hte,Tdg]
     rw[hbt,hb]
     exact⟨Tzr _ _ (by omega) (by omega) h4 (by omega) (by rw[he]; exact Tgz (h.er.ok hA.ok)),by simp⟩
end Go.Proofs.YtjpibniecllafaaGreat.AM
end
section
namespace Go.Proofs.YtjpibniecllafaaGreat.AM
open Go Go.Proofs.YtjpibniecllafaaGreat.U
variable {cp:List PV->Option Ret}
theorem Nd.kids {d:Nat}{x:PV}{l:List ByteArray}(h:Nd (d+1) x l):∃ q:List (PV×List ByteArray),2<=q.length/\ (∀ p∈q,Nd d p.1 p.2)/\l=its q/\x= .pt (nodeC (q.map Prod.fst) [] l.length (d+2) (cntP l)):=h
theorem okP.bd {P:List ByteArray}(h:okP P)(hf: (flat P).length<1073741824):Bd P:= ⟨hf,by have:=h.len; omega⟩
theorem Til:∀ l:List ByteArray,strsOf (strs l)=some l
 | []=>rfl
 | s::l=>by
  show strsOf ([.sc (.string s)]::strs l)=_
  rw[strsOf,Til l]
theorem Tjt {g:PV->Option (List ByteArray)}:∀ q:List (PV×List ByteArray),(∀ p∈q,g p.1=some p.2)->kidsF g (ones (q.map Prod.fst))=some (its q)
 | [],_=>rfl
 | p::q,h=>by
  show kidsF g ([p.1]::ones (q.map Prod.fst))=_
  rw[kidsF,h p (by simp),Tjt q fun r hr=>h r (by simp[hr]),Tfj]
theorem Tqc:∀ {d:Nat} {x:PV} {l:List ByteArray},Nd d x l->l.length<1073741824->nodeF (d+1) x=some l
 | 0,x,l,h,hb=>by
  rw[h.2]
  unfold nodeC
  rw[nodeF,if_pos (by simp),Til]
  simp[ones,kidsF]
 | d+1,x,l,h,hb=>by
  obtain⟨q,q1,q2,q3,rfl⟩:=h.kids
  have hc:=Tfl q q2
  rw[← q3]at hc
  have hk:kidsF (nodeF (d+1)) (ones (q.map Prod.fst))=some (its q):=Tjt q fun p hp=>Tqc (q2 p hp) (by
   obtain⟨a,b,rfl⟩:=List.append_of_mem hp
   rw[q3,Tcj,Tfj,List.length_append,List.length_append]at hb; omega)
  unfold nodeC
  rw[nodeF,if_pos (by simp; omega),Tpb,hk]
  simp[strsOf,← q3]
theorem Ty0 {x:PV}{l:List ByteArray}(h:RepT x l)(hb:Bd l):allF x=some l:=by
 rcases h with⟨rfl,rfl⟩ | ⟨d,h⟩
 · rfl
 · have h2:=Tqc h hb.2
   have h3:=hb.2
   obtain⟨k0,i0,rfl⟩:=h.shape
   unfold nodeC at h2 ⊢
   rw[allF,Int.toNat_natCast,h2]
   show(if(l.length:Int)=l.length/\l.length*16<=140737488355328 then some l else none)=some l
   rw[if_pos ⟨rfl,by omega⟩]
theorem runAll {x:PV}{l:List ByteArray}(h:RepT x l)(hb:Bd l):Run (EX cp) 84 [.st [x]]=some (.own 153 1 (strs l)):=by
 have e:=Ty0 h hb
 rw[Tb3 _ _ _ rfl]
 show(match allF x with | some l=>some (Ret.own 153 1 (l.map fun s=> [.sc (.string s)])) | none=>none)=_
 rw[e]; rfl
theorem Tn6 (l:List ByteArray)(hl:l.length<1073741824)(hb: (flat l).length<1073741824):∀(m i:Nat) (acc:List UInt8),m+i=l.length->acc.length+ (flat (l.drop i)).length<1073741824 ->
 Code (EX cp) L_rope_Rope_String_0 ⟨[(3,.mp 3 0 0),(10,.ms 10 0 l.length),(11,.p (pi l.length)),(12,.p (pi i))],[(3,.dp 145 2 (sbRow 5 (bRows acc))),(10,.row 153 1 false (strs l))]⟩ =
  some (.ex 0,⟨[(3,.mp 3 0 0),(10,.ms 10 0 l.length),(11,.p (pi l.length)),(12,.p (pi l.length)),(13,.p (pb false))],[(3,.dp 145 2 (sbRow 5 (bRows (acc++flat (l.drop i))))),(10,.row 153 1 false (strs l))]⟩):=by
 intro m
 induction m with
 | zero =>
  intro i acc hi ha
  have:i=l.length:=by omega
  subst this
  rw[L_rope_Rope_String_0,Taf]
  simp[flat]
 | succ m ih =>
  intro i acc hi ha
  have hlt:i<l.length:=by omega
  have hg:=Tt1 l i hlt
  rw[List.drop_eq_getElem_cons hlt,Tbo]at ha ⊢
  rw[List.length_append,L_len]at ha
  generalize l[i]=a at *
  have hln:a.data.toList.length=a.size:=by simp
  have hcap:acc.length+a.size+4<=maxBytes:=by unfold maxBytes; omega
  have ih':=ih (i+1) (acc++L a) (by omega) (by rw[List.length_append,L_len]; omega)
  rw[← List.append_assoc,← ih',L_rope_Rope_String_0,Taf]
  simp(disch:=omega)[hlt,hg,Tab,Taa,hcap,hln,Taj,L]
theorem ropeString {r:PV}{s:ByteArray}(h:Rp r s):Run (EX cp) 48 [r]=some (.val (.sc (.string s))):=by
 obtain⟨x,P,rfl,h1,h2,h3,h4⟩:=h
 have hfl: (flat P).length=s.size:=by rw[h3,L_len]
 have bP:=h2.bd (by omega)
 have d1:=runAll (cp:=cp) h1 bP
 have h:=Tn6 (cp:=cp) P bP.2 bP.1 P.length 0 [] (by omega) (by simpa using bP.1)
 rw[List.drop_zero,List.nil_append,h3,Ttu,show((0:Nat):Int)=0 from rfl]at h
 rw[Tah _ A_rope_Rope_String _ rfl rfl rfl]
 have e:=mk_L s
 unfold sbRow at h
 simp[A_rope_Rope_String,d1,h,e]
end Go.Proofs.YtjpibniecllafaaGreat.AM
end
