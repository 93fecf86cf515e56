/- Made by pack.py: more of it. No condition but what each says. -/
import Derived.Test.YtjpibniecllafaaGreatC22
import Derived.Test.YtjpibniecllafaaGreatC23
import Derived.Test.YtjpibniecllafaaGreatC24
import Derived.Test.YtjpibniecllafaaGreatC12
set_option linter.unusedSimpArgs false
set_option linter.unusedVariables false
set_option maxHeartbeats 16000000
section
namespace Go.Proofs.YtjpibniecllafaaGreat.wholeCarets
open Go Go.Proofs.YtjpibniecllafaaGreat.U Go.Proofs.YtjpibniecllafaaGreat.AM
attribute [local simp] cellR thereV RV.sv innE inlE reach pos subH SV.mapr RV.mapr Ob.mapr SV.refs RV.id? RV.ref Ob.refs noRow shnE shrE okK closeB freshs at0 newS leftS finishS oneS manyS allP sameFz Ob.noPin startS entryS List.range_succ List.filterMap_cons List.filterMap_nil SV.rv fzvs fzv liveV liveR rcellss rcells fillQ fixN RV.isNil revO canon pinsOf pinOb canF canP
def shapes:List PSh:= [.one (.i .u8),.one (.tx)]
def spK (k:Nat):List Nat:= (List.range k).map fun i=>2*i+1
abbrev z17:ByteArray:= ⟨#[97,98,99,100,101,102,103,104,105,106,107,108,109,110,111,112,113]⟩
theorem T22:∀ k,1<=k->k<=8->inc 17 (spK k) 0:=by
 intro k h1 h8
 have:k=1∨k=2∨k=3∨k=4∨k=5∨k=6∨k=7∨k=8:=by omega
 rcases this with rfl | rfl | rfl | rfl | rfl | rfl | rfl | rfl<;> simp[spK,List.range_succ,inc]
theorem Tgc (k:Nat): (spK k).length=k:=by simp[spK]
theorem T4g (k j:Nat)(h:j< (spK k).length): (spK k)[j]=2*j+1:=by simp[spK]
def rgs (i:Nat):List (Int×Int):= (spK i).map fun s:Nat=> ((s:Int),(s:Int))
theorem Ty5 (i:Nat):cutsL (rgs (i+1))=cutsL (rgs i)++ [[pi (2*i+1),pi (2*i+1)]]:=by
 unfold rgs spK
 rw[List.range_succ,List.map_append,List.map_append]
 unfold cutsL
 rw[List.map_append]
 rfl
def txC (t:ByteArray):Nat->ByteArray
 | 0=> ⟨#[]⟩
 | i+1=>txC t i++z17.extract (2*i-1) (2*i+1)++t
theorem Tk5 (t:ByteArray)(ht:t.size<=20):∀ i,i<=8-> (txC t i).size<=37*i
 | 0,h=>Nat.le_refl _
 | i+1,h=>by
  have:=Tk5 t ht i (by omega)
  have e: (z17.extract (2*i-1) (2*i+1)).size<=17:=by rw[ByteArray.size_extract]; have:z17.size=17:=rfl; omega
  rw[txC,ByteArray.size_append,ByteArray.size_append]; omega
theorem loop0 (t:ByteArray)(ht:t.size<=20)(k:Nat)(h1:1<=k)(h8:k<=8)(E:Eng)(x:List PV)(S:List (List PV)):∀(m i:Nat),m+i=k->1<=i ->
 LC (EX fun _=>none) L_top_WholeCarets_0 (cI t z17 k E x S (cutsL (rgs i)) (txC t i) i i)=some (.ex 0,cT t z17 k E x S (cutsL (rgs k)) (txC t k) k)
 | 0,i,hm,hi=>by
  obtain rfl:i=k:=by omega
  exact final t z17 i h8 E x S _ (by rw[Taq]; simp[rgs,Tgc]) _
 | m+1,i,hm,hi=>by
  have hT:=Tk5 t ht i (by omega)
  have:=round t z17 rfl ht k i hi (by omega) h8 E x S (cutsL (rgs i)) (by rw[Taq]; simp[rgs,Tgc]) (txC t i) (by omega)
  rw[this,← Ty5]
  exact loop0 t ht k h1 h8 E x S m (i+1) (by omega) (by omega)
theorem L_extract (z:ByteArray)(a b:Nat):L (z.extract a b)= ((L z).drop a).take (b-a):=by
 unfold L
 rw[ByteArray.data_extract,Array.toList_extract,List.extract_eq_take_drop]
theorem L_txC (t:ByteArray):∀ k,1<=k->k<=8->L (txC t k++z17.extract (2*k-1) 17)=bls (L t) (L z17) (spK k) 0:=by
 intro k h1 h8
 have:k=1∨k=2∨k=3∨k=4∨k=5∨k=6∨k=7∨k=8:=by omega
 have hz:L z17= [97,98,99,100,101,102,103,104,105,106,107,108,109,110,111,112,113]:=rfl
 have h0:L (⟨#[]⟩:ByteArray)= []:=rfl
 rcases this with rfl | rfl | rfl | rfl | rfl | rfl | rfl | rfl<;> simp[spK,List.range_succ,bls,txC,Tkh,L_extract,hz,h0]
theorem loop1 (t:ByteArray)(ht:t.size<=20)(k:Nat)(hk:k<=8)(M:List (List PV))(hM:M.length=k)(hat:∀ i,i<k->M[i]?=some [pi (2* (i:Int)+1+ ((i:Int)+1)*t.size),pi (2* (i:Int)+1+ ((i:Int)+1)*t.size)]) :
 ∀(m i:Nat) (X:List (Nat×Ob)),m+i=k-> (X= []∨0<m/\∃ E:Eng,X= [(6151,.mpo E.U E.fl E.G E.F)])->Go.Proofs.YtjpibniecllafaaGreat.AM.Code (EX fun _=>none) L_top_WholeCarets_1 (dS X t k k M i)=some (.ex 2,dE t k M)
 | 0,i,X,hm,hX=>by
  obtain rfl:i=k:=by omega
  rcases hX with rfl | ⟨h,_⟩
  · exact end1 t i hk M hM
  · omega
 | m+1,i,X,hm,hX=>by
  rw[step1 X (hX.imp id fun h=>h.2) t ht k i (by omega) hk M hM _ rfl (hat i (by omega))]
  exact loop1 t ht k hk M hM hat m (i+1) [] (by omega) (Or.inl rfl)
theorem way (w:UInt8)(t:ByteArray)(ht:t.size<=20)(k k0:Nat)(hk0:k=k0+1)(h8:k0<8)(htm: (w.toNat:Int).tmod 8= (k0:Int))(E0 E1 E2:Eng)(x0 x1 x2 x3:List PV)(S0 S1 R M:List (List PV))(T:ByteArray)(hT:T.size<=1000)(hR:R.length=k)(hM:M.length=k)(h1 h2 h3:Int)
 (hk:Run (EX fun _=>none) 12 []=some (.val (pb true)))
 (d1:Run (EX fun _=>none) 13 [.sc (.string t)]=some (.val (pb true)))
 (d2:Run (EX fun _=>none) 1000014 [.hp [] []]=some (.shr (.mp 0 0 0) (vwH E0 (.pt x0) S0 [] [])))
 (d3:Run (EX fun _=>none) 1000015 [.hp [.mp 0 0 0,.p (.st (actV 5 0 1 0 [] [] [] z17 0 0 0))] (vwH E0 (.pt x0) S0 [] [])]=some (.shr (.p (.tu [pi h1,pi 0])) (vwN E0 E1 x1 S1)))
 (lp:LC (EX fun _=>none) L_top_WholeCarets_0 (cI t z17 k E1 x1 S1 [] ⟨#[]⟩ 0 0)=some (.ex 0,cT t z17 k E1 x1 S1 R T k))
 (d4:Run (EX fun _=>none) 1000015 [.hp [.mp 0 0 0,.p (.st (actV 4 0 0 0 [] [] R ⟨#[]⟩ 0 0 0))] (vwH E1 (.pt x1) S1 [] [])]=some (.shr (.p (.tu [pi h2,pi 0])) (vwN E1 E1 x2 R)))
 (d5:Run (EX fun _=>none) 1000015 [.hp [.mp 0 0 0,.p (.st (actV 5 0 2 0 [] [] [] t 0 0 0))] (vwH E1 (.pt x2) R [] [])]=some (.shr (.p (.tu [pi h3,pi 0])) (vwN E1 E2 x3 M)))
 (d6:Run (EX fun _=>none) 2000019 [.hp [.mp 0 0 0] (vwH E2 (.pt x3) M [] [])]=some (.shn (.ms 3 0 k) [(3,.row 41 2 false M)]))
 (d7:Run (EX fun _=>none) 2000018 [.hp [.mp 0 0 0] (vwH E2 (.pt x3) M [] [])]=some (.shn (.p (.sc (.string (T++z17.extract (2*k-1) 17)))) []))
 (lp2:Go.Proofs.YtjpibniecllafaaGreat.AM.Code (EX fun _=>none) L_top_WholeCarets_1 (dS [(6151,.mpo E2.U E2.fl E2.G E2.F)] t k k M 0)=some (.ex 2,dE t k M)) :
 Run (EX fun _=>none) 4 [.sc (.int .u8 w.toNat),.sc (.string t)]=some (.val (pb true)):=by
 have kL:=fun st=>LC_of (EX fun _=>none) L_top_WholeCarets_0 st _ rfl
 have hz17:z17.size=17:=rfl
 have hw:IntKind.wrap .i64 (k0:Int)= (k0:Int):=Tab _ (by omega) (by omega)
 have e1: (k0:Int)+1= (k:Int):=by omega
 have e2: (2* (k:Int)-1).toNat=2*k-1:=by omega
 have e4: (1:Int)<=2* (k:Int):=by omega
 have e5:2*k-1<=17:=by omega
 have e6:2*k<=18:=by omega
 have e7: (T.size:Int)+ ((17- (2*k-1):Nat):Int)<=9223372036854775807:=by omega
 have e3: (z17.extract (2*k-1) 17).size<=17:=by rw[ByteArray.size_extract]; omega
 rw[Tah _ A_top_WholeCarets _ rfl rfl rfl]
 unfold cI cT vO at lp
 unfold dS dE at lp2
 unfold vwH at d2 d3 d4 d5 d6 d7
 unfold vwN at d3 d4 d5
 unfold actV at d3 d4 d5
 obtain⟨z,hzl⟩:∃ z:ByteArray,(⟨#[97,98,99,100,101,102,103,104,105,106,107,108,109,110,111,112,113]⟩:ByteArray)=z:= ⟨_,rfl⟩
 have hzz:z17=z:=hzl
 rw[hzz]at d3 lp d7 hz17 e3
 have htk:R.take k=R:=List.take_of_length_le (by omega)
 have htm':M.take k=M:=List.take_of_length_le (by omega)
 simp(maxSteps:=1000000) (disch:=omega) [A_top_WholeCarets,hzl,hk,ht,d1,d2,d3,d4,d5,d6,d7,hR,hM,htk,htm',htm,hw,e1,e2,e4,e5,e6,e7,hz17,kL,lp,lp2,Taa,Tad,Tab]
theorem law (xs:List PV)(h:WTAs shapes xs):Run EV 4 xs=some (.val (.sc (.bool true))):=by
 cases h with
 | cons h1 h=>cases h with
 | cons h2 h =>
 cases h
 obtain⟨w,rfl⟩:=T1o h1
 obtain⟨t,rfl,ht0⟩:=T3s h2
 clear h1 h2
 have hk:Run EV 12 []=some (.val (pb true)):=knownTop0
 rw[show EV=EX fun _=>none from rfl]at *
 obtain⟨k0,hkd⟩:∃ k0,k0=w.toNat % 8:= ⟨_,rfl⟩
 have h8:k0<8:=by rw[hkd]; exact Nat.mod_lt _ (by omega)
 have htm: (w.toNat:Int).tmod 8= (k0:Int):=by
  have:=Txz w.toNat 8
  rw[← hkd]at this; exact this
 have hw:IntKind.wrap .i64 (k0:Int)= (k0:Int):=Tab _ (by omega) (by omega)
 by_cases c0':t.size<=20
 case neg =>
  rw[Tah _ A_top_WholeCarets _ rfl rfl rfl]
  simp(disch:=omega)[A_top_WholeCarets,hk,c0',htm,hw,Taa,Tad,Tab]
 have d1:Run (EX fun _=>none) 13 _=_:=refValid t (by omega)
 by_cases c1:valid (L t)=true
 case neg =>
  rw[Bool.not_eq_true]at c1
  rw[c1]at d1
  rw[Tah _ A_top_WholeCarets _ rfl rfl rfl]
  simp(disch:=omega)[A_top_WholeCarets,hk,c0',d1,htm,hw,Taa,Tad,Tab]
 rw[c1]at d1
 have hzs:z17.size=17:=rfl
 have hza:∀ b∈L z17,b.toNat<128:=by decide
 have hzv:valid (L z17)=true:=Tca _ hza
 have hA:=ErA.of z17 (by decide) hzv
 have tlA:=Tik z17 hzv
 obtain⟨x0,hx0,d2⟩:=vwNew (cp:=fun _=>none) EOk.new
 obtain⟨E1,f1,st1,f3⟩:=Tyz z17 (by decide) hzv
 have ok1:=st1.ok hA (by omega)
 have s1:=st1.size hA
 have e1:E1.txt=z17:=by
  apply L_inj
  rw[st1.txt hA,Nat.sub_zero,List.take_length,tlA]
 obtain⟨x1,hx1,d3⟩:=doType1 (cp:=fun _=>none) Eng.new E1 EOk.new ok1 x0 hx0 (by rw[e1,hzs]; omega) 0 z17.size 0 1 (by rfl) (by have:=st1.hd; omega) (by have:=st1.hfl; omega) (by omega) (by omega) 0 1 0 ⟨by omega,by omega⟩ [] [] [] z17 0 0 0 (by rw[hzs]; omega) 1 f1 f3
 rw[e1]at hx1
 obtain⟨k,hkk⟩:∃ k,k=k0+1:= ⟨_,rfl⟩
 have hinc:=T22 k (by omega) (by omega)
 have hrl: (rgs k).length=k:=by simp[rgs,Tgc]
 have hin:∀ r∈rgs k,insB ((17:Nat):Int) r=true/\edgR z17 r=true:=by
  intro r hr
  obtain⟨a,ha,rfl⟩:=List.mem_map.1 hr
  have:=Tgb _ _ _ hinc a ha
  refine⟨?_,?_⟩
  · simp[insB,ivB,loR,hiR]; omega
  · have:=Tek z17 hza a (by omega)
    simp[edgR,this]
 have hap:apB (rgs k)=true:=Twa _ fun i hi=>by
  have a1: (rgs k)[i]= (((2*i+1:Nat):Int),((2*i+1:Nat):Int)):=by simp[rgs,spK]
  have a2: (rgs k)[i+1]= (((2* (i+1)+1:Nat):Int),((2* (i+1)+1:Nat):Int)):=by simp[rgs,spK]
  rw[a1,a2]
  unfold hiR loR
  simp; omega
 have hsel:selB z17 (rgs k)=true:=by
  unfold selB
  rw[hrl,List.all_eq_true.2 fun r hr=> (hin r hr).2,List.all_eq_true.2 (show ∀ r∈rgs k,insB z17.size r=true from fun r hr=> (hin r hr).1),hap]
  simp; omega
 have lp:LC (EX fun _=>none) L_top_WholeCarets_0 (cI t z17 k E1 x1 (cutsL [(z17.size,z17.size)]) [] ⟨#[]⟩ 0 0)=some (.ex 0,cT t z17 k E1 x1 (cutsL [(z17.size,z17.size)]) (cutsL (rgs k)) (txC t k) k):=by
  rw[first t z17 hzs c0' k (by omega)]
  exact loop0 t c0' k (by omega) (by omega) E1 x1 _ (k-1) 1 (by omega) (by omega)
 obtain⟨x2,hx2,d4⟩:=doSelect (cp:=fun _=>none) E1 ok1 x1 (cutsL [(z17.size,z17.size)]) (rgs k) 0 0 0 [] [] ⟨#[]⟩ 0 0 0 z17 (by decide) e1 hx1 hsel (by simp[cutsL]) (by intro z hz; simp[cutsL,cutV]at hz; subst hz; rfl)
 obtain⟨E2,g1,g2,g3,g4,g5,g6,g7,g8,g9⟩:=Ty4 z17 (by decide) hza E1 st1 t c0' c1 (spK k) hinc (by rw[Tgc]; omega)
 have hbl:=Tn8 (L t) (L z17) (spK k) 0 (by rw[L_len]; exact hinc)
 rw[L_len,L_len,Tgc,hzs]at hbl
 have hmul:k*t.size<=8*20:=Nat.mul_le_mul (by omega) c0'
 have hE2s:E2.txt.size<=20000:=by rw[← L_len,g5]; omega
 have hMat:∀ i (hi:i< (rgs k).length),((rgs k).map (mv2 17 (btw E2 1 2)))[i]'(by rw[List.length_map]; exact hi)= (2* (i:Int)+1+ ((i:Int)+1)*t.size,2* (i:Int)+1+ ((i:Int)+1)*t.size):=by
  intro i hi
  have hi':i< (spK k).length:=by rw[Tgc]; rw[hrl]at hi; exact hi
  have:=g9 i hi'
  rw[T4g]at this
  have a1: (rgs k)[i]= (((2*i+1:Nat):Int),((2*i+1:Nat):Int)):=by simp[rgs,spK]
  rw[List.getElem_map,a1]
  have e: ((2*i+1:Nat):Int)=2* (i:Int)+1:=by omega
  rw[e]at this ⊢
  exact this
 have hMl: ((rgs k).map (mv2 17 (btw E2 1 2))).length=k:=by rw[List.length_map,hrl]
 have hMap:apB ((rgs k).map (mv2 17 (btw E2 1 2)))=true:=Twa _ fun i hi=>by
  rw[hMl]at hi
  have a1:=hMat i (by omega)
  have a2:=hMat (i+1) (by omega)
  rw[a1,a2]
  unfold hiR loR
  have e: (((i+1:Nat):Int)+1)* (t.size:Int)= ((i:Int)+1)*t.size+t.size:=by rw[show(((i+1:Nat):Int)+1)= ((i:Int)+1)+1 by omega,Int.add_mul,Int.one_mul]
  simp only[Int.max_self,Int.min_self]
  rw[e]; omega
 obtain⟨x3,hx3,d5⟩:=doTypeN (cp:=fun _=>none) E1 E2 ok1 g2 x2 hE2s (rgs k) (by omega) (by omega) 1 2 (by have:=st1.hd; omega) g4 (by omega) (by omega) 0 2 0 ⟨by omega,by omega⟩ [] [] [] t 0 0 0 (by omega) 2 g1 17 g6 g8 g7 (fun r hr=> (hin r hr).1) hMap
 have d6:=vwSel (cp:=fun _=>none) E2 (.pt x3) (cutsL ((rgs k).map (mv2 17 (btw E2 1 2)))) [] [] (by rw[Taq,hMl]; omega) (fun c hc=>by obtain⟨r,_,rfl⟩:=List.mem_map.1 hc; rfl)
 rw[Taq,hMl]at d6
 have hT2:E2.txt=txC t k++z17.extract (2*k-1) 17:=by
  apply L_inj
  rw[g5,L_txC t k (by omega) (by omega)]
 have d7:=vwText (cp:=fun _=>none) E2 (.pt x3) (cutsL ((rgs k).map (mv2 17 (btw E2 1 2)))) [] [] E2.txt hx3
 rw[hT2]at d7
 have lp2:=loop1 t c0' k (by omega) (cutsL ((rgs k).map (mv2 17 (btw E2 1 2)))) (by rw[Taq,hMl]) (fun i hi=>by
  rw[Tds _ i (by omega),hMat i (by omega)]) k 0 [(6151,.mpo E2.U E2.fl E2.G E2.F)] (by omega) (Or.inr ⟨by omega,E2,rfl⟩)
 have hTs:=Tk5 t c0' k (by omega)
 exact way w t c0' k k0 hkk h8 htm Eng.new E1 E2 x0 x1 x2 x3 _ _ (cutsL (rgs k)) _ (txC t k) (by omega) (by rw[Taq,hrl]) (by rw[Taq,hMl]) _ _ _ hk d1 d2 d3 lp d4 d5 d6 d7 lp2
end Go.Proofs.YtjpibniecllafaaGreat.wholeCarets
end
