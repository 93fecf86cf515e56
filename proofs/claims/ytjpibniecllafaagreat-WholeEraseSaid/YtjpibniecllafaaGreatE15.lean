/- Made by pack.py: VD4, VD5, VD7, VP11, VP12, RP6, VV1, RER, VV4, VD9, VE1, VP13, VV6, VV2, VD6, VD8, VV3, VV5, VV7, VE2, VE3, VW1, WE1, AT0, ALWholeErase. No condition but what each says. -/
import Derived.Test.YtjpibniecllafaaGreatE14
import Derived.Test.YtjpibniecllafaaGreatE13
import Derived.Test.YtjpibniecllafaaGreatE12
import Derived.Test.YtjpibniecllafaaGreatE10
set_option linter.unusedSimpArgs false
set_option linter.unusedVariables false
section
namespace Go.Proofs.YtjpibniecllafaaGreat.AM
open Go Go.Proofs.YtjpibniecllafaaGreat.U
variable {cp:List PV→Option Ret}
theorem runRegIs (s:ByteArray)(hs:s.size<1099511627776)(l:List (Int×Int))(hl:l.length≤9223372036854775807):Run (EX cp) 122 [.sl 2 (cutsL l),.sc (.string s)]=some (.val (pb (selB s l))):=by
 have hbl:=Ta4 l
 have i1:Run (EX cp) 143 [.sc (.string s)]=some (.val (.fn 191 [.pt [.sc (.string s)]])):=by
  rw[Tah _ A_region_inside _ rfl rfl rfl]; simp[A_region_inside]
 have i2:Run (EX cp) 144 [.sc (.string s)]=some (.val (.fn 192 [.pt [.sc (.string s)]])):=by
  rw[Tah _ A_region_edges _ rfl rfl rfl]; simp[A_region_edges]
 have e1:=runEvery (cp:=cp) l hl 191 [.pt [.sc (.string s)]] (insB s.size) fun r _=>runInside1 s r
 have e2:=runEvery (cp:=cp) l hl 192 [.pt [.sc (.string s)]] (edgR s) fun r _=>runEdges1 s hs r
 rw[Tah _ A_region_Is _ rfl rfl rfl]
 unfold selB
 by_cases c1:1≤l.length
 · by_cases c2:l.length≤8
   · have c1':¬ (l.length:Int)<1:=by omega
     have c2':¬ (8:Int)<l.length:=by omega
     obtain⟨h1,h2⟩:=Tjg (cp:=cp) l c2 (l.length-1) 0 (by omega)
     rw[List.drop_zero,show(((0+1:Nat)):Int)=1 from rfl]at h1 h2
     cases a1:l.all (insB s.size)<;> rw[a1]at e1
     · simp(disch:=omega)[A_region_Is,hbl,i1,e1,c1,c2,Taa,Tab]
     · cases a2:l.all (edgR s)<;> rw[a2]at e2
       · simp(disch:=omega)[A_region_Is,hbl,i1,i2,e1,e2,c1,c2,Taa,Tab]
       · cases a3:apB l
         · have:=h2 a3
           simp(disch:=omega)[A_region_Is,hbl,i1,i2,e1,e2,c1,c2,this,Taa,Tab]
         · have:=h1 a3
           simp(disch:=omega)[A_region_Is,hbl,i1,i2,e1,e2,c1,c2,this,Taa,Tab]
   · simp(disch:=omega)[A_region_Is,hbl,c1,c2,Taa,Tab]
 · simp(disch:=omega)[A_region_Is,hbl,c1,Taa,Tab]
def sgn (a b:Int):Int:=if a<b then -1 else if b<a then 1 else 0
theorem runNaN (a:Int):Run (EX cp) 215 [pi a]=some (.val (pb false)):=by
 rw[Tah _ A_cmp_isNaN_int _ rfl rfl rfl]
 simp[A_cmp_isNaN_int]
theorem runCompare (a b:Int):Run (EX cp) 184 [pi a,pi b]=some (.val (pi (sgn a b))):=by
 have h1:=runNaN (cp:=cp) a
 have h2:=runNaN (cp:=cp) b
 rw[Tah _ A_cmp_Compare_int _ rfl rfl rfl]
 unfold sgn
 by_cases c1:a<b
 · simp(disch:=omega)[A_cmp_Compare_int,h1,h2,c1,Taa,Tab]
 · by_cases c2:b<a
   · simp(disch:=omega)[A_cmp_Compare_int,h1,h2,c1,c2,Taa,Tab]
   · simp(disch:=omega)[A_cmp_Compare_int,h1,h2,c1,c2,Taa,Tab]
theorem runOr1 (b:Int):Run (EX cp) 183 [.sl 1 [[pi 1],[pi b]]]=some (.val (pi 1)):=by
 rw[Tah _ A_cmp_Or_int _ rfl rfl rfl]
 simp[A_cmp_Or_int,L_cmp_Or_int_0,Tae]
theorem runCmpGt (a b:Int×Int)(h:loR b<loR a):Run (EX cp) 182 [.st (cutV a),.st (cutV b)]=some (.val (pi 1)):=by
 have s1:=runSpan (cp:=cp) a
 have s2:=runSpan (cp:=cp) b
 have c1:=runCompare (cp:=cp) (loR a) (loR b)
 have c2:=runCompare (cp:=cp) (hiR a) (hiR b)
 have o:=runOr1 (cp:=cp) (sgn (hiR a) (hiR b))
 rw[show sgn (loR a) (loR b)=1 by unfold sgn; rw[if_neg (by omega),if_pos h]]at c1
 rw[Tah _ A_region_apart_1 _ rfl rfl rfl]
 simp only[cutV]at s1 s2 ⊢
 simp[A_region_apart_1,s1,s2,c1,c2,o]
theorem runTouchR (a b:Int×Int):Run (EX cp) 186 [.st (cutV a),.st (cutV b)]=some (.val (pb (decide (loR b≤hiR a)&&decide (loR a≤hiR b)))):=by
 have s1:=runSpan (cp:=cp) a
 have s2:=runSpan (cp:=cp) b
 have t:=runTouch (cp:=cp) (loR a) (hiR a) (loR b) (hiR b)
 rw[Tah _ A_region_apart_2 _ rfl rfl rfl]
 simp only[cutV]at s1 s2 ⊢
 simp[A_region_apart_2,s1,s2,t]
theorem lo_hi (r:Int×Int):loR r≤hiR r:=by unfold loR hiR; omega
set_option maxHeartbeats 4000000 in
theorem Tpt (l:List (Int×Int))(hl:l.length≤8)(ho:apB l=true):∀(m i:Nat),m+i+1=l.length →
 Code (EX cp) L_slices_insertionSortCmpFunc_api_Region_1 ⟨[(0,.p (.sl 2 (cutsL l))),(1,.p (pi 0)),(2,.p (pi l.length)),(3,.p (.fn 182 [])),(8,.p (pi (i+1:Nat)))],[]⟩ =
  some (.ex 0,⟨[(0,.p (.sl 2 (cutsL l))),(1,.p (pi 0)),(2,.p (pi l.length)),(3,.p (.fn 182 [])),(8,.p (pi l.length)),(14,.p (pb false))],[]⟩)
 | 0,i,hm=>by
  have hbl:=Ta4 l
  rw[L_slices_insertionSortCmpFunc_api_Region_1,Tae,show i+1=l.length by omega]
  generalize cutsL l=R at *
  generalize l.length=z at *
  simp(disch:=omega)[Tab,-getElem?_pos]
 | m+1,i,hm=>by
  have hi:i+1<l.length:=by omega
  have h1:=Tcc l i (by omega)
  have h2:=Tcc l (i+1) hi
  have hap:=Tu6 l i hi ho
  have hg:=runCmpGt (cp:=cp) l[i+1] l[i] (by have:=lo_hi l[i]; omega)
  have ih:=Tpt l hl ho m (i+1) (by omega)
  have hbl:=Ta4 l
  have e1: ((i:Int)+1).toNat=i+1:=by omega
  have e0: (0:Int)≤ (i:Int)+1:=by omega
  have e2: (0:Int)< (i:Int)+1:=by omega
  have inner:Code (EX cp) L_slices_insertionSortCmpFunc_api_Region_0 ⟨[(0,.p (.sl 2 (cutsL l))),(1,.p (pi 0)),(2,.p (pi l.length)),(3,.p (.fn 182 [])),(8,.p (pi ((i:Int)+1))),(9,.p (pi ((i:Int)+1)))],[]⟩ =
   some (.ex 2,⟨[(0,.p (.sl 2 (cutsL l))),(1,.p (pi 0)),(2,.p (pi l.length)),(3,.p (.fn 182 [])),(8,.p (pi ((i:Int)+1))),(9,.p (pi ((i:Int)+1))),(34,.p (pb false))],[]⟩):=by
   rw[L_slices_insertionSortCmpFunc_api_Region_0,Tae]
   simp only[cutV]at hg
   clear hap ih
   generalize l[i]=p at *
   generalize l[i+1]=q at *
   generalize cutsL l=R at *
   generalize l.length=z at *
   simp(disch:=omega)[h1,h2,hg,hbl,e1,e0,e2,Taa,Tab,Tac,-getElem?_pos]
  rw[L_slices_insertionSortCmpFunc_api_Region_1,Tae]
  rw[L_slices_insertionSortCmpFunc_api_Region_1]at ih
  rw[show((i+1+1:Nat):Int)= (i:Int)+1+1 by omega]at ih
  rw[show((i+1:Nat):Int)= (i:Int)+1 by omega]
  clear hap hg h1 h2
  generalize cutsL l=R at *
  generalize l.length=z at *
  rw[← ih]
  simp(disch:=omega)[inner,hi,Taa,Tab,Tac,-getElem?_pos]
theorem runSort (l:List (Int×Int))(h1:1≤l.length)(hl:l.length≤8)(ho:apB l=true):Run (EX cp) 181 [.sl 2 (cutsL l),.fn 182 []]=some (.val (.tu [])):=by
 have hbl:=Ta4 l
 have i1:Run (EX cp) 226 [.sl 2 (cutsL l),pi 0,pi l.length,.fn 182 []]=some (.val (.tu [])):=by
  have lp:=Tpt (cp:=cp) l hl ho (l.length-1) 0 (by omega)
  rw[show(((0+1:Nat)):Int)=1 from rfl]at lp
  rw[Tah _ A_slices_insertionSortCmpFunc_api_Region _ rfl rfl rfl]
  simp(disch:=omega)[A_slices_insertionSortCmpFunc_api_Region,lp,Tac]
 have n1:¬ (20:Int)≤l.length:=by omega
 have n2:¬ (20:Int)<l.length:=by omega
 have l0:Code (EX cp) L_slices_stableCmpFunc_api_Region_0 ⟨[(0,.p (.sl 2 (cutsL l))),(1,.p (pi l.length)),(2,.p (.fn 182 [])),(6,.p (pi 20)),(7,.p (pi 0)),(8,.p (pi 20))],[]⟩=some (.ex 0,⟨[(0,.p (.sl 2 (cutsL l))),(1,.p (pi l.length)),(2,.p (.fn 182 [])),(6,.p (pi 20)),(7,.p (pi 0)),(8,.p (pi 20)),(13,.p (pb false))],[]⟩):=by
  rw[L_slices_stableCmpFunc_api_Region_0,Tae]
  generalize cutsL l=R at *
  generalize l.length=z at *
  simp(disch:=omega)[n1,Tab]
 have l2:Code (EX cp) L_slices_stableCmpFunc_api_Region_2 ⟨[(0,.p (.sl 2 (cutsL l))),(1,.p (pi l.length)),(2,.p (.fn 182 [])),(6,.p (pi 20))],[]⟩=some (.ex 2,⟨[(0,.p (.sl 2 (cutsL l))),(1,.p (pi l.length)),(2,.p (.fn 182 [])),(6,.p (pi 20)),(30,.p (pb false))],[]⟩):=by
  rw[L_slices_stableCmpFunc_api_Region_2,Tae]
  generalize cutsL l=R at *
  generalize l.length=z at *
  simp(disch:=omega)[n2,Tab]
 have i2:Run (EX cp) 214 [.sl 2 (cutsL l),pi l.length,.fn 182 []]=some (.val (.tu [])):=by
  rw[Tah _ A_slices_stableCmpFunc_api_Region _ rfl rfl rfl]
  generalize cutsL l=R at *
  simp[A_slices_stableCmpFunc_api_Region,i1,l0,l2]
 rw[Tah _ A_slices_SortStableFunc_api_Region_api_Region _ rfl rfl rfl]
 generalize cutsL l=R at *
 simp[A_slices_SortStableFunc_api_Region_api_Region,i2,hbl]
set_option maxHeartbeats 4000000 in
theorem Tma (l:List (Int×Int))(hl:l.length≤8)(ho:apB l=true)(j:FuncId):∀(m i:Nat),m+i=l.length →
 Code (EX cp) L_interval_Folded_api_Region_0 ⟨[(1,.p (.fn 186 [])),(2,.p (.fn j [])),(7,.ms 7 0 i),(11,.p (.sl 2 (cutsL l))),(12,.p (pi l.length)),(13,.p (pi i))],[(7,.row 41 2 false (cutsL (l.take i)))]⟩ =
  some (.ex 0,⟨[(1,.p (.fn 186 [])),(2,.p (.fn j [])),(7,.ms 7 0 l.length),(11,.p (.sl 2 (cutsL l))),(12,.p (pi l.length)),(13,.p (pi l.length)),(14,.p (pb false))],[(7,.row 41 2 false (cutsL l))]⟩)
 | 0,i,hm=>by
  obtain rfl:i=l.length:=by omega
  have hbl:=Ta4 l
  rw[L_interval_Folded_api_Region_0,Tae,List.take_length]
  generalize cutsL l=R at *
  generalize l.length=z at *
  simp(disch:=omega)[Tab,-getElem?_pos]
 | m +1,i,hm=>by
  have hi:i<l.length:=by omega
  have h1:=Tcc l i hi
  have ih:=Tma l hl ho j m (i+1) (by omega)
  have hbl:=Ta4 l
  have htl: (cutsL (l.take i)).length=i:=by rw[Ta4,List.length_take]; omega
  have esn:cutsL (l.take (i+1))=cutsL (l.take i)++ [[pi l[i].1,pi l[i].2]]:=by
   have ea:∀ a b:List (Int×Int),cutsL (a++b)=cutsL a++cutsL b:=fun a b=>by simp[cutsL]
   rw[List.take_add_one,List.getElem?_eq_getElem hi,ea]
   rfl
  rw[esn]at ih
  rw[show((i+1:Nat):Int)= (i:Int)+1 by omega]at ih
  rw[L_interval_Folded_api_Region_0,Tae]
  rw[L_interval_Folded_api_Region_0]at ih
  have hcap: (i+1)*16≤maxBytes∧i+1≤9223372036854775807:=by unfold maxBytes; omega
  rcases Nat.eq_zero_or_pos i with h0 | h0
  · subst h0
    generalize l[0]=p at *
    generalize cutsL (l.take 0)=T at *
    obtain rfl:T= []:=List.length_eq_zero_iff.1 htl
    generalize cutsL l=R at *
    generalize l.length=z at *
    rw[← ih]
    simp(disch:=omega)[h1,hi,maxBytes,Taa,Tab,Tac,Taj,-getElem?_pos]
  · have hap:=Tu6 l (i-1) (by omega) ho
    have ht:=runTouchR (cp:=cp) l[i-1] l[i]
    have e4:i-1+1=i:=by omega
    have hap':hiR l[i-1]<loR l[i]:=by
     have:loR l[i-1+1]=loR l[i]:=by congr 2
     omega
    rw[decide_eq_false (show ¬ loR l[i]≤hiR l[i-1]by omega),Bool.false_and]at ht
    have h3: (cutsL (l.take i))[i-1]?=some [pi l[i-1].1,pi l[i-1].2]:=by
     have:=Tcc (l.take i) (i-1) (by rw[List.length_take]; omega)
     rw[this]
     simp
    have ek: ((i:Int)-1).toNat=i-1:=by omega
    have e0: (0:Int)≤ (i:Int)-1:=by omega
    have e5:i-1<i:=by omega
    simp only[cutV]at ht
    clear hap hap'
    generalize l[i-1]=q at *
    generalize l[i]=p at *
    generalize cutsL (l.take i)=T at *
    generalize cutsL l=R at *
    generalize l.length=z at *
    rw[← ih]
    simp(disch:=omega)[h1,h3,ht,hi,htl,ek,e0,e5,hcap,Taa,Tab,Tac,Taj,-getElem?_pos]
theorem runApart (l:List (Int×Int))(h1:1≤l.length)(hl:l.length≤8)(ho:apB l=true):Run (EX cp) 136 [.sl 2 (cutsL l)]=some (.own 41 2 (cutsL l)):=by
 have hbl:=Ta4 l
 have d1:=Tp4 (cp:=cp) (cutsL l) (fun c hc=>by obtain⟨r,_,rfl⟩:=List.mem_map.1 hc; rfl) (by rw[hbl]; omega)
 have d2:=runSort (cp:=cp) l h1 hl ho
 have lp:=Tma (cp:=cp) l hl ho 188 l.length 0 (by omega)
 rw[show((0:Nat):Int)=0 from rfl,List.take_zero,show cutsL []= []from rfl]at lp
 have d3:Run (EX cp) 185 [.sl 2 (cutsL l),.fn 186 [],.fn 188 []]=some (.own 41 2 (cutsL l)):=by
  rw[Tah _ A_interval_Folded_api_Region _ rfl rfl rfl]
  generalize cutsL l=R at *
  simp[A_interval_Folded_api_Region,lp,hbl]
 have htk: (cutsL l).take l.length=cutsL l:=List.take_of_length_le (by rw[hbl]; exact Nat.le_refl _)
 rw[Tah _ A_region_apart _ rfl rfl rfl]
 generalize cutsL l=R at *
 simp[A_region_apart,d1,d2,d3,hbl,htk]
theorem runMoveO (base:Int)(l:List Ch)(hd:isD base l=true)(a:Int)(ha:inI a)(af:Bool):Run (EX cp) 135 [.st [pi base,.sl 3 (chs l)],pi a,pb af]=some (.val (pi (moveF base l a af))):=by
 obtain⟨b0,b1,hl,hL⟩:=Tdh hd
 have bd:=Teg base b1 l 0 0 none hL (Int.le_refl _)
 have d1:=runIs (cp:=cp) base l (by omega) (fun x hx=>by have:=bd x hx; omega)
 rw[hd]at d1
 have hbl:=Tb3 l
 obtain⟨s,h1,h2⟩:=Tnl (cp:=cp) l hl bd (min (max a 0) base) (by omega) (by omega) af l.length 0 0 0 (by omega) (by omega) (by omega) (by omega) (by omega)
 rw[show((0:Nat):Int)=0 from rfl]at h1
 rw[List.drop_zero]at h2
 have e1: (if 0 > a then 0 else a)=max a 0:=by omega
 have e2: (if base<max a 0 then base else max a 0)=min (max a 0) base:=by omega
 rw[Tah _ A_offset_Move _ rfl rfl rfl]
 have hmv:moveF base l a af=if af=true then(mvL (min (max a 0) base) l 0 0).1+ (mvL (min (max a 0) base) l 0 0).2 else(mvL (min (max a 0) base) l 0 0).1:=rfl
 rw[hmv,← h2]
 congr 1
 refine Ti1 _ 6 _ _ _ ?_
 generalize min (max a 0) base=m at *
 generalize chs l=R at *
 generalize l.length=z at *
 simp(disch:=omega)[A_offset_Move,headN,d1,hbl,e1,e2,h1,Taa,Tab]
def mv2 (base:Int)(e:List Ch)(r:Int×Int):Int×Int:= (moveF base e r.1 true,moveF base e r.2 true)
set_option maxHeartbeats 4000000 in
theorem Trl (D:List (List PV))(base:Int)(R T:List (List PV))(n i:Nat)(a c a' c':Int)(res:Option (Out×St))(hR:R.length=n)(hn:n≤8)(hi:i<n)(hT:T.length=i)(h1:R[i]?=some [pi a,pi c])
 (m1:Run (EX cp) 135 [.st [pi base,.sl 3 D],pi a,pb true]=some (.val (pi a'))) (m2:Run (EX cp) 135 [.st [pi base,.sl 3 D],pi c,pb true]=some (.val (pi c')))
 (ih:Code (EX cp) L_region_Move_0 ⟨[(3,.mp 3 0 0),(7,.ms 7 0 (i+1)),(29,.p (.sl 2 R)),(30,.p (pi n)),(31,.p (pi ((i:Int)+1)))],[(3,.row 131 2 true [[pi base,.sl 3 D]]),(7,.row 41 2 false (T++ [[pi a',pi c']]))]⟩=res) :
 Code (EX cp) L_region_Move_0 ⟨[(3,.mp 3 0 0),(7,.ms 7 0 i),(29,.p (.sl 2 R)),(30,.p (pi n)),(31,.p (pi i))],[(3,.row 131 2 true [[pi base,.sl 3 D]]),(7,.row 41 2 false T)]⟩=res:=by
 rw[← ih]
 conv=>lhs; rw[L_region_Move_0,Tae]
 simp(maxSteps:=1000000) (disch:=omega) [hR,hi,hT,h1,m1,m2,maxBytes,Taa,Tab,Tac,Taj,-getElem?_pos]
 rw[L_region_Move_0]
theorem T1u {n:Int}{r:Int×Int}(h:insB n r=true)(hn:n≤20000):0≤r.1∧r.1≤n∧0≤r.2∧r.2≤n:=by
 unfold insB ivB loR hiR at h
 simp only[Bool.and_eq_true,decide_eq_true_eq]at h
 omega
theorem Tjh (base:Int)(e:List Ch)(hd:isD base e=true)(l:List (Int×Int))(hl:l.length≤8)(hin:∀ r∈l,insB base r=true):∀(m i:Nat),m+i=l.length →
 Code (EX cp) L_region_Move_0 ⟨[(3,.mp 3 0 0),(7,.ms 7 0 i),(29,.p (.sl 2 (cutsL l))),(30,.p (pi l.length)),(31,.p (pi i))],[(3,.row 131 2 true [[pi base,.sl 3 (chs e)]]),(7,.row 41 2 false (cutsL ((l.take i).map (mv2 base e))))]⟩ =
  some (.ex 0,⟨[(3,.mp 3 0 0),(7,.ms 7 0 l.length),(29,.p (.sl 2 (cutsL l))),(30,.p (pi l.length)),(31,.p (pi l.length)),(32,.p (pb false))],[(3,.row 131 2 true [[pi base,.sl 3 (chs e)]]),(7,.row 41 2 false (cutsL (l.map (mv2 base e))))]⟩)
 | 0,i,hm=>by
  obtain rfl:i=l.length:=by omega
  rw[L_region_Move_0,Tae,List.take_length]
  generalize cutsL (l.map (mv2 base e))=O at *
  generalize cutsL l=R at *
  generalize l.length=z at *
  simp(disch:=omega)[Tab,-getElem?_pos]
 | m+1,i,hm=>by
  have hi:i<l.length:=by omega
  obtain⟨b0,b1,_,_⟩:=Tdh hd
  obtain⟨r1,r2,r3,r4⟩:=T1u (hin _ (List.getElem_mem hi)) b1
  refine Trl (chs e) base (cutsL l) (cutsL ((l.take i).map (mv2 base e))) l.length i l[i].1 l[i].2 _ _ _ (Ta4 l) hl hi (by rw[Ta4,List.length_map,List.length_take]; omega) (Tcc l i hi) (runMoveO base e hd _ ⟨by omega,by omega⟩ true) (runMoveO base e hd _ ⟨by omega,by omega⟩ true) ?_
  have ih:=Tjh base e hd l hl hin m (i+1) (by omega)
  have esn:cutsL ((l.take (i+1)).map (mv2 base e))=cutsL ((l.take i).map (mv2 base e))++ [[pi (moveF base e l[i].1 true),pi (moveF base e l[i].2 true)]]:=by
   have ea:∀ a b:List (Int×Int),cutsL (a++b)=cutsL a++cutsL b:=fun a b=>by simp[cutsL]
   rw[List.take_add_one,List.getElem?_eq_getElem hi,List.map_append,ea]
   rfl
  rw[esn]at ih
  exact ih
theorem runRegMove (base:Int)(e:List Ch)(hd:isD base e=true)(l:List (Int×Int))(h1:1≤l.length)(hl:l.length≤8)(hin:∀ r∈l,insB base r=true)(ho:apB (l.map (mv2 base e))=true) :
 Run (EX cp) 77 [.sl 2 (cutsL l),.st [pi base,.sl 3 (chs e)]]=some (.val (.tu [.sl 2 (cutsL (l.map (mv2 base e))),pi 0])):=by
 obtain⟨b0,b1,b2,b3⟩:=Tdh hd
 have bd:=Teg base b1 e 0 0 none b3 (Int.le_refl _)
 have d1:=runIs (cp:=cp) base e (by omega) (fun x hx=>by have:=bd x hx; omega)
 rw[hd]at d1
 have d2:=runEvery (cp:=cp) l (by omega) 132 [.pt [pi base,.sl 3 (chs e)]] (insB base) fun r _=>runMove1 base (chs e) r
 rw[List.all_eq_true.2 hin]at d2
 have d3:=runCountR (cp:=cp) l
 rw[if_neg (by omega),if_neg (by omega)]at d3
 have d4:=Tjh (cp:=cp) base e hd l hl hin l.length 0 (by omega)
 rw[List.take_zero,show((0:Nat):Int)=0 from rfl,List.map_nil,show cutsL []= []from rfl]at d4
 have hml: (l.map (mv2 base e)).length=l.length:=List.length_map ..
 have d5:=runApart (cp:=cp) (l.map (mv2 base e)) (by rw[hml]; exact h1) (by rw[hml]; exact hl) ho
 have hbl:=Ta4 l
 have hol: (cutsL (l.map (mv2 base e))).length=l.length:=by rw[Ta4,hml]
 have htk: (cutsL (l.map (mv2 base e))).take l.length=cutsL (l.map (mv2 base e)):=List.take_of_length_le (by rw[hol]; exact Nat.le_refl _)
 have hz:¬ l= []:=fun e=>by rw[e]at h1; simp at h1
 rw[Tah _ A_region_Move _ rfl rfl rfl]
 generalize cutsL (l.map (mv2 base e))=O at *
 generalize cutsL l=R at *
 generalize chs e=D at *
 simp(disch:=omega)[A_region_Move,d1,d2,d3,d4,d5,hbl,hol,htk,hz,Taa,Tab,Taj]
end Go.Proofs.YtjpibniecllafaaGreat.AM
end
section
namespace Go.Proofs.YtjpibniecllafaaGreat.AM
open Go Go.Proofs.YtjpibniecllafaaGreat.U
structure DOk (E:Eng) (fr to_:Int) (b p:Int):Prop where
 sz: ((E.textAt fr).size:Int)=b
 is:isD b (btw E fr to_)=true
 len: (btw E fr to_).length≤60
 mv:mv2 b (btw E fr to_) (b,b)= (p,p)
theorem T1v (fr to_:Int)(u v:List Int)(P R:List At)(hp:∀ a∈P,a.vis fr u=true∧a.vis to_ v=true)(hr:∀ a∈R,a.vis to_ v=false)(ho:okTx P) :
 ((bwAll fr to_ u v (P++R) ([],0)).1= []∧szN P=0)∨ ((bwAll fr to_ u v (P++R) ([],0)).1= [⟨0,(szN P:Nat),⟨#[]⟩⟩]∧1≤szN P):=by
 rw[T23,Tnj fr to_ u v R _ hr]
 cases P with
 | nil=>exact Or.inl ⟨rfl,rfl⟩
 | cons a l =>
  right
  have h1:=ho.size a (List.mem_cons_self ..)
  have h3:szN (a::l)=a.txt.size+szN l:=by simp[szN]
  rw[Txs fr to_ u v a l hp,Tuz]
  exact⟨rfl,by omega⟩
theorem ErSt.step {A:List At}{i:Nat}{E:Eng}(hA:ErA A)(h:ErSt A i E)(hi:i<A.length) :
 ∃ E',E.edit (i+1) 2 0 [⟨(szN (A.take (A.length-i-1)):Nat),(szN (A.take (A.length-i)):Nat),⟨#[]⟩⟩]= ((i:Int)+2,0,E')∧ErSt A (i+1) E'∧DOk E' (i+1) (i+2) (szN (A.take (A.length-i)):Nat) (szN (A.take (A.length-i-1)):Nat):=by
 have hlen:=h.er.len (Nat.le_of_lt hi)
 have h60:=Tew hA.ok
 have hsz:=hA.sz
 obtain⟨P,a,Q,hP,ha,hl,ht,hQ,hE'⟩:=Era.step hA.new h.er hi
 have hPm:∀ b∈P,b∈A:=fun b hb=>by rw[hP]at hb; exact List.mem_of_mem_take hb
 have ham:a∈A:=by rw[ha]; exact List.getElem_mem _
 have hPv:∀ r:Int,1≤r→∀ b∈P,b.vis r []=true:=fun r hr b hb=>Tfi (hA.new b (hPm b hb)) r hr [] (by decide)
 have hav:∀ r:Int,1≤r→a.vis r []=true:=fun r hr=>Tfi (hA.new a ham) r hr [] (by decide)
 have hQv:∀ r:Int,(i:Int)+1≤r→∀ b∈Q,b.vis r []=false:=fun r hr b hb=>by
  obtain⟨q1,q2,c,q3,q4,q5⟩:=hQ b hb
  exact Tdi ⟨q1,q2,q3⟩ r (by omega)
 have hok:okTx P:=fun b hb=>hA.ok b (hPm b hb)
 have hoa:okTx [a]:=fun b hb=>by rw[List.mem_singleton]at hb; subst hb; exact hA.ok _ ham
 have has:=hA.ok.size a ham
 have hL:L (E.textAt (i+1))=tl P++L a.txt:=by rw[h.at_ hA (i+1) (Int.le_refl _),ht,Tyu,Tuw]
 have hS: (E.textAt (i+1)).size=szN (A.take (A.length-i)):=by rw[← L_len,h.at_ hA (i+1) (Int.le_refl _),Td5]
 have hSl:=Tei A (A.length-i)
 have hPs:szN (A.take (A.length-i))=szN P+a.txt.size:=by rw[ht,Tnq,Tux]
 rw[← hP]
 have vP:valid (tl P)=true:=Tgp hok
 have va:valid (L a.txt)=true:=by rw[← Tuw]; exact Tgp hoa
 have hvt:valid (L (E.textAt (i+1)))=true:=by rw[hL,Td2 vP]; exact va
 have e1:edge (E.textAt (i+1)) (szN P:Nat)=true:=by
  have:=Tkr _ _ _ hL vP va
  rwa[Td5]at this
 have e2:edge (E.textAt (i+1)) ((E.textAt (i+1)).size:Nat)=true:=by
  have:=Tkr (E.textAt (i+1)) (L (E.textAt (i+1))) [] (by rw[List.append_nil]) hvt Ta3
  rwa[L_len]at this
 have hk:=Txq (E.textAt (i+1)) hvt (by omega) (szN P:Nat) (by omega) (by omega) e1 e2
 rw[hS]at hk
 have hk':=hk
 unfold Eng.textAt at hk'
 rw[h.ut,hl]at hk'
 have hup:E.upon (i+1) 2 0 [⟨(szN P:Nat),(szN (A.take (A.length-i)):Nat),⟨#[]⟩⟩]=P++cutAt a (i+2) 2::Q:=by
  unfold Eng.upon
  rw[h.ut,hl,h.hfl,h.hU,List.length_replicate,show((0:Int)+ ((i+2:Nat):Int))= (i:Int)+2 by omega]
  exact Tq0 _ [] _ 2 0 a P Q _ (hav _ (by omega)) (hQv _ (by omega)) (fun b hb=> ⟨hPv _ (by omega) b hb,(hok.size b hb).1⟩) (by omega) hk'
 have hU:E.U++ [lastS E.U]=List.replicate (i+1+2) []:=by rw[h.hU,Tly,Txo]
 have hG:insS 2 E.G=if i+1=0 then[1]else[1,2]:=by
  have e:¬ i+1=0:=by omega
  by_cases c:i=0
  · rw[h.hG,if_pos c,if_neg e]; decide
  · rw[h.hG,if_neg c,if_neg e]; decide
 have hll: (P++cutAt a (i+2) 2::Q).length=A.length:=hE'.len hi
 have st:ErSt A (i+1) ⟨P++cutAt a (i+2) 2::Q,E.U++ [lastS E.U],E.fl,insS 2 E.G,E.F⟩:= ⟨hE',hU,h.hfl,hG,h.hF⟩
 have hsz': (headT (P++cutAt a (i+2) 2::Q) (E.U++ [lastS E.U]) E.fl).size≤20000:=by
  have:=st.size hA
  have h9:=Tei A (A.length- (i+1))
  show(Eng.txt ⟨P++cutAt a (i+2) 2::Q,E.U++ [lastS E.U],E.fl,insS 2 E.G,E.F⟩).size≤20000
  omega
 have hed:=Eng.edit_good E (i+1) 2 0 _ _ (by rw[h.hd,h.hfl]; omega) hk (by rw[h.hF]; simp) (by have:=h.hd; omega) (by omega) hup (by omega) hsz'
 refine⟨_,by rw[hed,show E.fl+ (E.U.length:Int)= (i:Int)+2 by have:=h.hd; omega],st,?_⟩
 have hca:a.rv=1∧a.gr=1∧a.cuts= []:=hA.new a ham
 have hcut: (cutAt a (i+2) 2).rv=1∧ (cutAt a (i+2) 2).gr=1∧ (cutAt a (i+2) 2).cuts= [((i:Int)+2,2)]:=by
  refine⟨hca.1,hca.2.1,?_⟩
  show a.cuts++ [((i:Int)+2,2)]=_
  rw[hca.2.2]; rfl
 have hts:txtF (i+1) [] (P++cutAt a (i+2) 2::Q)=tl (P++ [a]):=by
  have e:tl (P++ [a])=tl (P++ [cutAt a (i+2) 2]):=Tu0 (by simp[cutAt])
  rw[e,show P++cutAt a (i+2) 2::Q= (P++ [cutAt a (i+2) 2])++Q by simp]
  refine Tl1 _ [] _ _ (fun b hb=> ?_) (hQv _ (by omega))
  rcases List.mem_append.1 hb with hb | hb
  · exact hPv _ (by omega) b hb
  · rw[List.mem_singleton]at hb
    subst hb
    exact Trk hcut _ (by omega) (by omega)
 have hb:=T1v (i+1) (i+2) [] [] P (cutAt a (i+2) 2::Q) (fun b hb=> ⟨hPv _ (by omega) b hb,hPv _ (by omega) b hb⟩) (fun b hb=>by
  rcases List.mem_cons.1 hb with rfl | hb
  · exact Tdi hcut _ (by omega)
  · exact hQv _ (by omega) b hb) hok
 have hbt:∀ fr to_:Int,btw ⟨P++cutAt a (i+2) 2::Q,E.U++ [lastS E.U],E.fl,insS 2 E.G,E.F⟩ fr to_= (bwAll fr to_ [] [] (P++cutAt a (i+2) 2::Q) ([],0)).1:=by
  intro fr to_
  unfold btw
  rw[st.ut,st.ut]
 have hsz1: (((Eng.textAt ⟨P++cutAt a (i+2) 2::Q,E.U++ [lastS E.U],E.fl,insS 2 E.G,E.F⟩ (i+1)).size:Nat):Int)= (szN (A.take (A.length-i)):Nat):=by
  rw[← L_len]
  unfold Eng.textAt
  rw[st.ut,show L (txtS (i+1) [] (P++cutAt a (i+2) 2::Q))=txtF (i+1) [] (P++cutAt a (i+2) 2::Q)from L_mk _,hts,Td5,← ht]
 rcases hb with⟨hb,hz⟩ | ⟨hb,hz⟩
 · refine⟨hsz1,?_,?_,?_⟩
   · rw[hbt,hb]; exact Tnm _ (by omega) (by omega)
   · rw[hbt,hb]; simp
   · rw[hbt,hb]
     unfold mv2
     rw[Tui _ _ (by omega),hz]; rfl
 · refine⟨hsz1,?_,?_,?_⟩
   · rw[hbt,hb]; exact T25 _ _ (by omega) (by omega) (by omega)
   · rw[hbt,hb]; simp
   · rw[hbt,hb]
     unfold mv2
     rw[mv_cp _ _ _ (by omega) (by omega) (by omega)]
theorem ErA.of (s:ByteArray)(hs:s.size≤60)(hv:valid (L s)=true):ErA (newAts (L s) 1 1 0):=by
 refine⟨Th0 _ _ _ _,fun a ha=> ?_,?_⟩
 · obtain⟨q1,q2,q3,_⟩:=Thz ha
   exact⟨q2,q3,q1⟩
 · rw[← Td5,Tyq,Ta8 _ hv,L_len]; exact hs
theorem Tks (s:ByteArray)(hv:valid (L s)=true):tl (newAts (L s) 1 1 0)=L s:=by rw[Tyq,Ta8 _ hv]
theorem Tyv (fr to_:Int)(u v:List Int)(A:List At)(hA:okTx A)(h:∀ a∈A,a.vis fr u=false∧a.vis to_ v=true) :
 ((bwAll fr to_ u v A ([],0)).1= []∧A= [])∨∃ e,(bwAll fr to_ u v A ([],0)).1= [⟨0,0,e⟩]∧L e=tl A∧1≤e.size:=by
 cases A with
 | nil=>exact Or.inl ⟨rfl,rfl⟩
 | cons a l =>
  right
  have h1:=hA.size a (List.mem_cons_self ..)
  have ha:=h a (List.mem_cons_self ..)
  have e:bwStep ([],0) a.txt (a.vis fr u) (a.vis to_ v)= ([⟨0,0,a.txt⟩],0):=by
   rw[ha.1,ha.2]; simp[bwStep,dPt]
  obtain⟨p',h2,h3⟩:=Tuh fr to_ u v l a.txt 0 h1.1 fun b hb=>h b (List.mem_cons_of_mem _ hb)
  refine⟨p',by rw[Th4,e,h3],?_,?_⟩
  · rw[h2]; simp[tl]
  · rw[← L_len,h2,List.length_append,L_len]; omega
theorem Txz (s:ByteArray)(hs:s.size≤60)(hv:valid (L s)=true):∃ E',Eng.new.edit 0 1 0 [⟨0,0,s⟩]= (1,0,E')∧ErSt (newAts (L s) 1 1 0) 0 E'∧DOk E' 0 1 0 s.size:=by
 have hA:=ErA.of s hs hv
 obtain⟨c0,c1⟩:=Tqz s 1 1 0 hv (by omega)
 have hl: (newAts (L s) 1 1 0).length≤60:=by
  rw[Tdf]
  have:=Tdc (L s)
  rw[L_len]at this; omega
 have st:ErSt (newAts (L s) 1 1 0) 0 ⟨newAts (L s) 1 1 0,List.replicate 2 [],0,[1],[]⟩:= ⟨Era.zero _,rfl,rfl,rfl,rfl⟩
 have hz:=st.size hA
 have h9:=Tei (newAts (L s) 1 1 0) ((newAts (L s) 1 1 0).length-0)
 have hsz:=hA.sz
 have hed:=Eng.edit_good Eng.new 0 1 0 _ (newAts (L s) 1 1 0) (by simp[Eng.new]) c0 (by simp[Eng.new]) (by simp[Eng.new]) (by omega) c1 (by omega) (by
  show(Eng.txt ⟨newAts (L s) 1 1 0,List.replicate 2 [],0,[1],[]⟩).size≤20000
  omega)
 refine⟨_,hed,st,?_⟩
 have hbt:btw ⟨newAts (L s) 1 1 0,List.replicate 2 [],0,[1],[]⟩ 0 1= (bwAll 0 1 [] [] (newAts (L s) 1 1 0) ([],0)).1:=by
  unfold btw
  rw[st.ut,st.ut]
 have hb:=Tyv 0 1 [] [] (newAts (L s) 1 1 0) hA.ok fun a ha=> ⟨by
  have:=hA.new a ha
  unfold At.vis
  rw[this.1]; simp,Tfi (hA.new a ha) 1 (by omega) [] (by decide)⟩
 have hsz1: (((Eng.textAt ⟨newAts (L s) 1 1 0,List.replicate 2 [],0,[1],[]⟩ 0).size:Nat):Int)=0:=by
  rw[← L_len]
  unfold Eng.textAt
  rw[st.ut,show L (txtS 0 [] (newAts (L s) 1 1 0))=txtF 0 [] (newAts (L s) 1 1 0)from L_mk _,Tet 0 [] _ fun a ha=>by
   have:=hA.new a ha
   unfold At.vis
   rw[this.1]; simp]
  rfl
 have hsA:szN (newAts (L s) 1 1 0)=s.size:=by rw[← Td5,Tks s hv,L_len]
 rcases hb with⟨hb,hn⟩ | ⟨e,hb,he,h1⟩
 · have h0:s.size=0:=by rw[← hsA,hn]; rfl
   refine⟨hsz1,?_,?_,?_⟩
   · show isD 0 (btw ⟨newAts (L s) 1 1 0,List.replicate 2 [],0,[1],[]⟩ 0 1)=true
     rw[hbt,hb]; exact Tnm _ (by omega) (by omega)
   · show(btw ⟨newAts (L s) 1 1 0,List.replicate 2 [],0,[1],[]⟩ 0 1).length≤60
     rw[hbt,hb]; simp
   · show mv2 0 (btw ⟨newAts (L s) 1 1 0,List.replicate 2 [],0,[1],[]⟩ 0 1) (0,0)=_
     rw[hbt,hb]
     unfold mv2
     rw[Tui _ _ (by omega),h0]; rfl
 · have hes:e.size=s.size:=by rw[← L_len,he,Tks s hv,L_len]
   have hve:valid (L e)=true:=by rw[he,Tks s hv]; exact hv
   refine⟨hsz1,?_,?_,?_⟩
   · show isD 0 (btw ⟨newAts (L s) 1 1 0,List.replicate 2 [],0,[1],[]⟩ 0 1)=true
     rw[hbt,hb]; exact Tys _ _ (by omega) (by omega) h1 (by omega) hve
   · show(btw ⟨newAts (L s) 1 1 0,List.replicate 2 [],0,[1],[]⟩ 0 1).length≤60
     rw[hbt,hb]; simp
   · show mv2 0 (btw ⟨newAts (L s) 1 1 0,List.replicate 2 [],0,[1],[]⟩ 0 1) (0,0)=_
     rw[hbt,hb]
     unfold mv2
     rw[mv_pt _ _ _ (by omega) h1,hes]
theorem ErSt.none {A:List At}{E:Eng}(hA:ErA A)(h:ErSt A A.length E):E.txt= ⟨#[]⟩∧DOk E (A.length+1) (A.length+1) 0 0:=by
 have ht:=h.txt hA
 rw[Nat.sub_self,List.take_zero]at ht
 have hL:=h.at_ hA (A.length+1) (Int.le_refl _)
 rw[Nat.sub_self,List.take_zero]at hL
 have hsz1: (((E.textAt (A.length+1)).size:Nat):Int)=0:=by rw[← L_len,hL]; rfl
 have hv:∀ b∈E.l,b.vis (A.length+1) []=false:=by
  obtain⟨Q,h1,h2,h3⟩:=h.er
  rw[Nat.sub_self,List.take_zero,List.nil_append]at h1
  intro b hb
  rw[h1]at hb
  obtain⟨q1,q2,c,q3,q4,q5⟩:=h3 b hb
  exact Tdi ⟨q1,q2,q3⟩ _ (by omega)
 have hb:btw E (A.length+1) (A.length+1)= []:=by
  unfold btw
  rw[h.ut]
  exact Tnj _ _ _ _ E.l ([],0) hv
 refine⟨L_inj (by rw[ht]; rfl),hsz1,?_,?_,?_⟩
 · rw[hb]; exact Tnm _ (by omega) (by omega)
 · rw[hb]; simp
 · rw[hb]; unfold mv2; rw[Tui _ _ (by omega)]
theorem ErSt.back {A:List At}{E:Eng}(hA:ErA A)(h:ErSt A A.length E)(hn:1≤A.length) :
 ∃ E',E.toggle 2= ((A.length:Int)+2,0,E')∧EOk E'∧E'.fl=0∧E'.fl+ (E'.U.length:Int)-1=A.length+2∧L E'.txt=tl A∧ ((E'.textAt (A.length+1)).size:Int)=0∧isD 0 (btw E' (A.length+1) (A.length+2))=true∧ (btw E' (A.length+1) (A.length+2)).length≤60:=by
 have hok:=h.ok hA (Nat.le_refl _)
 have h60:=Tew hA.ok
 have hsz:=hA.sz
 have hU:togU E.U 2=List.replicate (A.length+2) []++ [[2]]:=by
  rw[h.hU]
  show List.replicate (A.length+2) []++ [if 2∈lastS (List.replicate (A.length+2) [])then _ else insS 2 (lastS (List.replicate (A.length+2) []))]=_
  rw[Tly]; rfl
 have hu2:undU (List.replicate (A.length+2) []++ [[2]]) 0 (0+ (List.replicate (A.length+2) ([]:List Int)++ [[2]]).length-1)= [2]:=Th3 _ _ _ (Int.le_refl _)
 have hln: (0:Int)+ (List.replicate (A.length+2) ([]:List Int)++ [[2]]).length-1= (A.length:Int)+2:=by simp<;> omega
 rw[hln]at hu2
 have hu1:undU (List.replicate (A.length+2) []++ [[2]]) 0 ((A.length:Int)+1)= []:=by
  unfold undU
  split
  · rw[List.getD_eq_getElem?_getD,List.getElem?_append_left (by simp<;> omega),List.getElem?_replicate]
    split<;> rfl
  · rfl
 have htx:headT E.l (togU E.U 2) E.fl= ⟨(tl A).toArray⟩:=by
  rw[hU,h.hfl]
  unfold headT
  rw[hln,hu2]
  apply L_inj
  rw[show L (txtS _ [2] E.l)=txtF _ [2] E.l from L_mk _,h.er.txtU hA _ (by omega)]
  exact(L_mk _).symm
 have hts: (headT E.l (togU E.U 2) E.fl).size≤20000:=by
  rw[htx,← L_len,show L ⟨(tl A).toArray⟩=tl A from L_mk _,Td5]; omega
 have htg:=Eng.toggle_good E 2 (by rw[h.hG,if_neg (by omega)]; simp) (by have:=h.hd; omega) hts
 have okT:=hok.toggle 2
 rw[htg]at okT
 refine⟨_,by rw[htg,show E.fl+ (E.U.length:Int)= (A.length:Int)+2 by have:=h.hd; omega],okT,h.hfl,?_,?_,?_,?_⟩
 · show E.fl+ ((togU E.U 2).length:Int)-1=_
   rw[hU,h.hfl,hln]
 · show L (headT E.l (togU E.U 2) E.fl)=tl A
   rw[htx]; exact L_mk _
 · show((txtS (A.length+1) (undU (togU E.U 2) E.fl (A.length+1)) E.l).size:Int)=0
   rw[hU,h.hfl,hu1,← L_len,show L (txtS _ [] E.l)=txtF _ [] E.l from L_mk _,h.er.txt hA _ (Int.le_refl _),Nat.sub_self,List.take_zero]
   rfl
 · obtain⟨Q,h1,h2,h3⟩:=h.er
   rw[Nat.sub_self,List.take_zero,List.nil_append]at h1
   have hb:=Tyv (A.length+1) (A.length+2) [] [2] E.l (h.er.ok hA.ok) fun b hb=>by
    rw[h1]at hb
    obtain⟨q1,q2,c,q3,q4,q5⟩:=h3 b hb
    exact⟨Tdi ⟨q1,q2,q3⟩ _ (by omega),Th5 ⟨q1,q2,q3⟩ _ (by omega)⟩
   have hbt:btw ⟨E.l,togU E.U 2,E.fl,E.G,E.F⟩ (A.length+1) (A.length+2)= (bwAll (A.length+1) (A.length+2) [] [2] E.l ([],0)).1:=by
    unfold btw Eng.ut
    simp only
    rw[hU,h.hfl,hu1,hu2]
   have hle: (E.l.length)=A.length:=h.er.len (Nat.le_refl _)
   rcases hb with⟨hb,hn'⟩ | ⟨e,hb,he,h4⟩
   · rw[hn']at hle; simp at hle; omega
   · have hte:tl E.l=tl A:=Tu0 (by rw[h1,h2]; simp)
     have hes:e.size=szN A:=by rw[← L_len,he,hte,Td5]
     rw[hbt,hb]
     exact⟨Tys _ _ (by omega) (by omega) h4 (by omega) (by rw[he]; exact Tgp (h.er.ok hA.ok)),by simp⟩
end Go.Proofs.YtjpibniecllafaaGreat.AM
end
section
namespace Go.Proofs.YtjpibniecllafaaGreat.AM
open Go Go.Proofs.YtjpibniecllafaaGreat.U
variable {cp:List PV→Option Ret}
theorem Nd.kids {d:Nat}{x:PV}{l:List ByteArray}(h:Nd (d+1) x l):∃ q:List (PV×List ByteArray),2≤q.length∧ (∀ p∈q,Nd d p.1 p.2)∧l=its q∧x= .pt (nodeC (q.map Prod.fst) [] l.length (d+2) (cntP l)):=h
theorem okP.bd {P:List ByteArray}(h:okP P)(hf: (flat P).length<1073741824):Bd P:= ⟨hf,by have:=h.len; omega⟩
theorem Tia:∀ l:List ByteArray,strsOf (strs l)=some l
 | []=>rfl
 | s::l=>by
  show strsOf ([.sc (.string s)]::strs l)=_
  rw[strsOf,Tia l]
theorem Tji {g:PV→Option (List ByteArray)}:∀ q:List (PV×List ByteArray),(∀ p∈q,g p.1=some p.2)→kidsF g (ones (q.map Prod.fst))=some (its q)
 | [],_=>rfl
 | p::q,h=>by
  show kidsF g ([p.1]::ones (q.map Prod.fst))=_
  rw[kidsF,h p (by simp),Tji q fun r hr=>h r (by simp[hr]),Tfj]
theorem Tpu:∀ {d:Nat} {x:PV} {l:List ByteArray},Nd d x l→l.length<1073741824→nodeF (d+1) x=some l
 | 0,x,l,h,hb=>by
  rw[h.2]
  unfold nodeC
  rw[nodeF,if_pos (by simp),Tia]
  simp[ones,kidsF]
 | d+1,x,l,h,hb=>by
  obtain⟨q,q1,q2,q3,rfl⟩:=h.kids
  have hc:=Tfl q q2
  rw[← q3]at hc
  have hk:kidsF (nodeF (d+1)) (ones (q.map Prod.fst))=some (its q):=Tji q fun p hp=>Tpu (q2 p hp) (by
   obtain⟨a,b,rfl⟩:=List.append_of_mem hp
   rw[q3,Tck,Tfj,List.length_append,List.length_append]at hb; omega)
  unfold nodeC
  rw[nodeF,if_pos (by simp; omega),Tov,hk]
  simp[strsOf,← q3]
theorem Tx0 {x:PV}{l:List ByteArray}(h:RepT x l)(hb:Bd l):allF x=some l:=by
 rcases h with⟨rfl,rfl⟩ | ⟨d,h⟩
 · rfl
 · have h2:=Tpu h hb.2
   have h3:=hb.2
   obtain⟨k0,i0,rfl⟩:=h.shape
   unfold nodeC at h2 ⊢
   rw[allF,Int.toNat_natCast,h2]
   show(if(l.length:Int)=l.length∧l.length*16≤140737488355328 then some l else none)=some l
   rw[if_pos ⟨rfl,by omega⟩]
theorem runAll {x:PV}{l:List ByteArray}(h:RepT x l)(hb:Bd l):Run (EX cp) 84 [.st [x]]=some (.own 153 1 (strs l)):=by
 have e:=Tx0 h hb
 rw[Tbw _ _ _ rfl]
 show(match allF x with | some l=>some (Ret.own 153 1 (l.map fun s=> [.sc (.string s)])) | none=>none)=_
 rw[e]; rfl
theorem Tnr (l:List ByteArray)(hl:l.length<1073741824)(hb: (flat l).length<1073741824):∀(m i:Nat) (acc:List UInt8),m+i=l.length→acc.length+ (flat (l.drop i)).length<1073741824 →
 Code (EX cp) L_rope_Rope_String_0 ⟨[(3,.mp 3 0 0),(10,.ms 10 0 l.length),(11,.p (pi l.length)),(12,.p (pi i))],[(3,.dp 145 2 (sbRow 5 (bRows acc))),(10,.row 153 1 false (strs l))]⟩ =
  some (.ex 0,⟨[(3,.mp 3 0 0),(10,.ms 10 0 l.length),(11,.p (pi l.length)),(12,.p (pi l.length)),(13,.p (pb false))],[(3,.dp 145 2 (sbRow 5 (bRows (acc++flat (l.drop i))))),(10,.row 153 1 false (strs l))]⟩):=by
 intro m
 induction m with
 | zero =>
  intro i acc hi ha
  have:i=l.length:=by omega
  subst this
  rw[L_rope_Rope_String_0,Tae]
  simp[flat]
 | succ m ih =>
  intro i acc hi ha
  have hlt:i<l.length:=by omega
  have hg:=Ts9 l i hlt
  rw[List.drop_eq_getElem_cons hlt,Tbn]at ha ⊢
  rw[List.length_append,L_len]at ha
  generalize l[i]=a at *
  have hln:a.data.toList.length=a.size:=by simp
  have hcap:acc.length+a.size+4≤maxBytes:=by unfold maxBytes; omega
  have ih':=ih (i+1) (acc++L a) (by omega) (by rw[List.length_append,L_len]; omega)
  rw[← List.append_assoc,← ih',L_rope_Rope_String_0,Tae]
  simp(disch:=omega)[hlt,hg,Tac,Taa,hcap,hln,Taj,L]
theorem ropeString {r:PV}{s:ByteArray}(h:Rp r s):Run (EX cp) 48 [r]=some (.val (.sc (.string s))):=by
 obtain⟨x,P,rfl,h1,h2,h3,h4⟩:=h
 have hfl: (flat P).length=s.size:=by rw[h3,L_len]
 have bP:=h2.bd (by omega)
 have d1:=runAll (cp:=cp) h1 bP
 have h:=Tnr (cp:=cp) P bP.2 bP.1 P.length 0 [] (by omega) (by simpa using bP.1)
 rw[List.drop_zero,List.nil_append,h3,Ts2,show((0:Nat):Int)=0 from rfl]at h
 rw[Tah _ A_rope_Rope_String _ rfl rfl rfl]
 have e:=mk_L s
 unfold sbRow at h
 simp[A_rope_Rope_String,d1,h,e]
end Go.Proofs.YtjpibniecllafaaGreat.AM
end
section
namespace Go.Proofs.YtjpibniecllafaaGreat.AM
open Go Go.Proofs.YtjpibniecllafaaGreat.U
attribute [local simp] cellR thereV RV.sv innE inlE reach pos subH SV.mapr RV.mapr Ob.mapr SV.refs RV.id? RV.ref Ob.refs noRow shnE shrE okK closeB freshs at0 newS leftS finishS oneS manyS allP sameFz Ob.noPin startS entryS List.range_succ List.filterMap_cons List.filterMap_nil SV.rv fzvs fzv liveV liveR rcellss rcells fillQ fixN RV.isNil revO
variable {cp:List PV→Option Ret}
def vwH (E:Eng)(r:PV)(sel sp br:List (List PV)):List (Nat×Ob):= [(0,.gr 90 5 [[.mp 1 0 0,.p r,.p (.sl 2 sel),.p (.sl 3 sp),.p (.sl 1 br)]]),(1,.gr 100 2 [[.p (.sl 5 (ats E.l)),.mo 2]]),(2,.mpo E.U E.fl E.G E.F)]
theorem copiedR (l:List (List PV))(hl:l.length≤100)(h2:∀ c∈l,c.length=2):Run (EX cp) 49 [.sl 2 l]=some (.own 41 2 l):=by
 rw[Tah _ A_view_copied_api_Region _ rfl rfl rfl]
 simp(disch:=omega)[A_view_copied_api_Region,maxBytes,Tac,Taj]
theorem copiedI (l:List (List PV))(hl:l.length≤100):Run (EX cp) 63 [.sl 1 l]=some (.own 3 1 l):=by
 rw[Tah _ A_view_copied_int _ rfl rfl rfl]
 simp(disch:=omega)[A_view_copied_int,maxBytes,Tac,Taj]
theorem copiedS (l:List (List PV))(hl:l.length≤100):Run (EX cp) 120 [.sl 3 l]=some (.own 33 3 l):=by
 rw[Tah _ A_view_copied_api_Span _ rfl rfl rfl]
 simp(disch:=omega)[A_view_copied_api_Span,maxBytes,Tac,Taj]
section
variable (E:Eng)(r:PV)(sel sp br:List (List PV))
theorem vwHead:Run (EX cp) 2000017 [.hp [.mp 0 0 0] (vwH E r sel sp br)]=some (.shn (.p (pi (E.fl+E.U.length-1))) []):=by
 have h1:=engHead (cp:=cp) (ats E.l) E.U E.fl E.G E.F
 simp only[engH]at h1
 rw[Tbt _ 17 A_view_View_Head _ _ (by decide) rfl rfl rfl rfl rfl (by simp[vwH]) (by decide +kernel)]
 simp(disch:=omega)[A_view_View_Head,vwH,h1]
theorem vwText (s:ByteArray)(hr:Rp r s):Run (EX cp) 2000018 [.hp [.mp 0 0 0] (vwH E r sel sp br)]=some (.shn (.p (.sc (.string s))) []):=by
 have h1:=ropeString (cp:=cp) hr
 rw[Tbt _ 18 A_view_View_Text _ _ (by decide) rfl rfl rfl rfl rfl (by simp[vwH]) (by decide +kernel)]
 simp(disch:=omega)[A_view_View_Text,vwH,h1]
theorem vwSel (hl:sel.length≤100)(h2:∀ c∈sel,c.length=2):Run (EX cp) 2000019 [.hp [.mp 0 0 0] (vwH E r sel sp br)]=some (.shn (.ms 3 0 sel.length) [(3,.row 41 2 false sel)]):=by
 have h1:=copiedR (cp:=cp) sel hl h2
 rw[Tbt _ 19 A_view_View_Selection _ _ (by decide) rfl rfl rfl rfl rfl (by simp[vwH]) (by decide +kernel)]
 simp(disch:=omega)[A_view_View_Selection,vwH,h1]
theorem vwSp (hl:sp.length≤100):Run (EX cp) 2000073 [.hp [.mp 0 0 0] (vwH E r sel sp br)]=some (.shn (.ms 3 0 sp.length) [(3,.row 33 3 false sp)]):=by
 have h1:=copiedS (cp:=cp) sp hl
 rw[Tbt _ 73 A_view_View_Spans _ _ (by decide) rfl rfl rfl rfl rfl (by simp[vwH]) (by decide +kernel)]
 simp(disch:=omega)[A_view_View_Spans,vwH,h1]
theorem vwBr (hl:br.length≤100):Run (EX cp) 2000031 [.hp [.mp 0 0 0] (vwH E r sel sp br)]=some (.shn (.ms 3 0 br.length) [(3,.row 3 1 false br)]):=by
 have h1:=copiedI (cp:=cp) br hl
 rw[Tbt _ 31 A_view_View_Breaks _ _ (by decide) rfl rfl rfl rfl rfl (by simp[vwH]) (by decide +kernel)]
 simp(disch:=omega)[A_view_View_Breaks,vwH,h1]
set_option maxHeartbeats 4000000 in
theorem vwCopy (x:List PV)(hr:r= .pt x)(H:EOk E)(hl:sel.length≤100)(h2:∀ c∈sel,c.length=2)(hl3:sp.length≤100)(hl1:br.length≤100):Run (EX cp) 2000042 [.hp [.mp 0 0 0] (vwH E r sel sp br)]=some (.shn (.mp 3 0 0) [(3,.gr 90 5 [[.mp 4 0 0,.p r,.p (.sl 2 sel),.p (.sl 3 sp),.p (.sl 1 br)]]),(4,.gr 100 2 [[.p (.sl 5 (ats E.l)),.mo 5]]),(5,.mpo E.U E.fl E.G E.F)]):=by
 subst hr
 have c1:=vwSel (cp:=cp) E (.pt x) sel sp br hl h2
 have c2:=vwSp (cp:=cp) E (.pt x) sel sp br hl3
 have c3:=vwBr (cp:=cp) E (.pt x) sel sp br hl1
 have c4:=engCopy (cp:=cp) E.l E.U E.fl E.G E.F (by have:=H.len; omega) (fun a ha=>by have:=H.cl a ha; omega)
 have t1:sel.take sel.length=sel:=List.take_length
 have t2:sp.take sp.length=sp:=List.take_length
 have t3:br.take br.length=br:=List.take_length
 simp only[engH]at c4
 unfold vwH at c1 c2 c3
 rw[Tbt _ 42 A_view_View_Copy _ _ (by decide) rfl rfl rfl rfl rfl (by simp[vwH]) (by decide +kernel)]
 simp(maxSteps:=1000000) (disch:=omega) [A_view_View_Copy,vwH,c1,c2,c3,c4,t1,t2,t3]
end
end Go.Proofs.YtjpibniecllafaaGreat.AM
end
section
namespace Go.Proofs.YtjpibniecllafaaGreat.AM
open Go Go.Proofs.YtjpibniecllafaaGreat.U
attribute [local simp] cellR thereV RV.sv innE inlE reach pos subH SV.mapr RV.mapr Ob.mapr SV.refs RV.id? RV.ref Ob.refs noRow shnE shrE okK closeB freshs at0 newS leftS finishS oneS manyS allP sameFz Ob.noPin startS entryS List.range_succ List.filterMap_cons List.filterMap_nil SV.rv fzvs fzv liveV liveR rcellss rcells fillQ fixN RV.isNil revO
variable {cp:List PV→Option Ret}
def engHR (fz:Bool)(l:List (List PV))(U:List (List Int))(fl:Int)(G F:List Int)(c:List (List PV)):List (Nat×Ob):= [(0,.gr 100 2 [[.p (.sl 5 l),.mo 2]]),(1,.row 49 3 fz c),(2,.mpo U fl G F)]
def engH2R (l:List (List PV))(U:List (List Int))(fl:Int)(G F:List Int)(U':List (List Int))(fl':Int)(G' F':List Int)(c:List (List PV)):List (Nat×Ob):= [(0,.gr 100 2 [[.p (.sl 5 l),.mo 3]]),(1,.row 49 3 true c),(2,.mpo U fl G F),(3,.mpo U' fl' G' F')]
abbrev Eng.hpR (E:Eng) (fz:Bool) (c:List Ch):List (Nat×Ob):=engHR fz (ats E.l) E.U E.fl E.G E.F (chs c)
abbrev Eng.hp2R (E E':Eng) (c:List Ch):List (Nat×Ob):=engH2R (ats E'.l) E.U E.fl E.G E.F E'.U E'.fl E'.G E'.F (chs c)
abbrev cEditR (E:Eng) (fz:Bool) (b g rk:Int) (c:List Ch):List PV:= [.hp [.mp 0 0 0,.p (pi b),.p (pi g),.p (pi rk),.ms 1 0 c.length] (E.hpR fz c)]
set_option maxHeartbeats 4000000 in
theorem engEditR (fz:Bool)(l:List At)(U:List (List Int))(fl:Int)(G F:List Int)(base g rk:Int)(c:List Ch)(l':List At)(hl:l.length<1000000)(hlc:∀ a∈l,a.cuts.length<1000000)(hf:Fit2 l)
 (hb:fl≤base∧base≤fl+U.length-1) (hu: (undU U fl base).length≤9223372036854775807) (hcl:c.length≤9223372036854775807) (hcs:∀ x∈c,x.s.size<1000000) (hk:chk (txtS base (undU U fl base) l) c=0)
 (hg:inR g) (hg2:¬ (g∈F∨g<0∨60≤g)) (hn:¬ 200≤fl+ (U.length:Int)-1) (hr:0≤rk∧rk≤1000000)
 (hl':uponF l base (undU U fl base) c (fl+U.length) g rk=l') (h40:l'.length≤4000) (hf':Fit l') (hu': (undU (U++ [lastS U]) fl (fl+ (U++ [lastS U]).length-1)).length≤9223372036854775807)
 (hft: (headT l' (U++ [lastS U]) fl).size≤20000) :
 Run (EX cp) 1000021 [.hp [.mp 0 0 0,.p (pi base),.p (pi g),.p (pi rk),.ms 1 0 c.length] (engHR fz (ats l) U fl G F (chs c))]=some (.shr (.p (.tu [pi (fl+U.length),pi 0])) (engH2R (ats l') U fl G F (U++ [lastS U]) fl (insS g G) F (chs c))):=by
 have h1:=engText (cp:=cp) l U fl G F base hf.fit hu hb
 have hcs2:∀ x∈c,x.s.size<1099511627776:=fun x hx=>by have:=hcs x hx; omega
 have h2:=editCheck (cp:=cp) (txtS base (undU U fl base) l) c (hf.txt base (undU U fl base)) hcl hcs2
 rw[hk]at h2
 have h3:=engCopy (cp:=cp) l U fl G F (by omega) (fun a ha=>by have:=hlc a ha; omega)
 have h4:=Tda (cp:=cp) U fl G F g hg
 have e4:revAdd U fl G F g= .shr (.p (.tu [pi (fl+U.length),pi 0])) [(0,revO (U++ [lastS U]) fl (insS g G) F)]:=by
  unfold revAdd
  rw[if_neg hg2,if_neg hn]
 rw[e4]at h4
 have h5:=engUndoneAt (cp:=cp) (ats l) U fl G F base
 have h6:=editUpon (cp:=cp) l base (undU U fl base) c (fl+U.length) g rk hf hl hlc hu hcl hcs
 rw[hl']at h6
 have h7:=engFits (cp:=cp) l' (U++ [lastS U]) fl (insS g G) F hf' (by simp) hu'
 rw[decide_eq_true (by omega: ((headT l' (U++ [lastS U]) fl).size:Int)≤20000)]at h7
 have r1:decide (rk<0)=false:=decide_eq_false (by omega)
 have r2:decide (1000000<rk)=false:=decide_eq_false (by omega)
 have r3:decide ((4000:Int)< (l'.length:Int))=false:=decide_eq_false (by omega)
 have hlen: (ats l').length=l'.length:=Tka l'
 simp only[engH,revO]at h1 h2 h3 h4 h5 h6 h7
 rw[Tan _ 21 A_engine_Engine_Edit _ _ (by decide) (by decide) rfl rfl rfl rfl rfl (by simp[engHR])]
 simp(disch:=omega)[A_engine_Engine_Edit,engHR,engH2R,Tc0,h1,h2,h3,h4,h5,h6,h7,hlen,Taa,Tab]
section
variable (E:Eng)(H:EOk E)(fz:Bool)(b g rk:Int)(c:List Ch)
include H
set_option maxHeartbeats 4000000 in
theorem Trm (hb:¬ (E.fl≤b∧b≤E.fl+E.U.length-1)):Run (EX cp) 1000021 (cEditR E fz b g rk c)=some (.shr (.p (.tu [pi 0,pi 190])) (E.hpR fz c)):=by
 have _h:=H
 have h1:=Tqc (cp:=cp) (ats E.l) E.U E.fl E.G E.F b hb
 simp only[engH]at h1
 rw[Tan _ 21 A_engine_Engine_Edit _ _ (by decide) (by decide) rfl rfl rfl rfl rfl (by simp[Eng.hpR,engHR])]
 simp(disch:=omega)[A_engine_Engine_Edit,Eng.hpR,engHR,Tc0,h1]
set_option maxHeartbeats 4000000 in
theorem Tu7 (hw:ChW c)(hb:E.fl≤b∧b≤E.fl+E.U.length-1)(hk:chk (E.textAt b) c≠0):Run (EX cp) 1000021 (cEditR E fz b g rk c)=some (.shr (.p (.tu [pi 0,pi (chk (E.textAt b) c)])) (E.hpR true c)):=by
 have h1:=engText (cp:=cp) E.l E.U E.fl E.G E.F b H.fit2.fit (H.ul b) hb
 have h2:=editCheck (cp:=cp) (E.textAt b) c (H.fit2.txt b (E.ut b)) hw.1 (fun x hx=>by have:=hw.2 x hx; omega)
 have h1':txtS b (undU E.U E.fl b) E.l=E.textAt b:=rfl
 rw[h1']at h1
 generalize E.textAt b=t at *
 generalize chk t c=n at *
 simp only[engH]at h1
 rw[Tan _ 21 A_engine_Engine_Edit _ _ (by decide) (by decide) rfl rfl rfl rfl rfl (by simp[Eng.hpR,engHR])]
 simp(disch:=omega)[A_engine_Engine_Edit,Eng.hpR,engHR,Tc0,h1,h2,hk,Taa,Tab]
variable (hw:ChW c)(hb:E.fl≤b∧b≤E.fl+E.U.length-1)(hk:chk (E.textAt b) c=0)(hg:inR g)
include hw hb hk hg
set_option maxHeartbeats 4000000 in
theorem Tmb (n:Int)(hn:n≠0)(ha:revAdd E.U E.fl E.G E.F g= .shr (.p (.tu [pi 0,pi n])) [(0,revO E.U E.fl E.G E.F)]):Run (EX cp) 1000021 (cEditR E fz b g rk c)=some (.shr (.p (.tu [pi 0,pi n])) (E.hpR true c)):=by
 have h1:=engText (cp:=cp) E.l E.U E.fl E.G E.F b H.fit2.fit (H.ul b) hb
 have h2:=editCheck (cp:=cp) (E.textAt b) c (H.fit2.txt b (E.ut b)) hw.1 (fun x hx=>by have:=hw.2 x hx; omega)
 have h1':txtS b (undU E.U E.fl b) E.l=E.textAt b:=rfl
 rw[h1']at h1
 rw[hk]at h2
 have h3:=engCopy (cp:=cp) E.l E.U E.fl E.G E.F (by have:=H.len; omega) (fun a ha=>by have:=H.cl a ha; omega)
 have h4:=Tda (cp:=cp) E.U E.fl E.G E.F g hg
 rw[ha]at h4
 simp only[engH,revO]at h1 h3 h4
 rw[Tan _ 21 A_engine_Engine_Edit _ _ (by decide) (by decide) rfl rfl rfl rfl rfl (by simp[Eng.hpR,engHR])]
 simp(disch:=omega)[A_engine_Engine_Edit,Eng.hpR,engHR,Tc0,h1,h2,h3,h4,hn,Taa,Tab]
variable (ha:revAdd E.U E.fl E.G E.F g= .shr (.p (.tu [pi (E.fl+E.U.length),pi 0])) [(0,revO (E.U++ [lastS E.U]) E.fl (insS g E.G) E.F)])
include ha
set_option maxHeartbeats 4000000 in
theorem Trn (hr:rk<0∨1000000<rk):Run (EX cp) 1000021 (cEditR E fz b g rk c)=some (.shr (.p (.tu [pi 0,pi 10])) (E.hpR true c)):=by
 have h1:=engText (cp:=cp) E.l E.U E.fl E.G E.F b H.fit2.fit (H.ul b) hb
 have h2:=editCheck (cp:=cp) (E.textAt b) c (H.fit2.txt b (E.ut b)) hw.1 (fun x hx=>by have:=hw.2 x hx; omega)
 have h1':txtS b (undU E.U E.fl b) E.l=E.textAt b:=rfl
 rw[h1']at h1
 rw[hk]at h2
 have h3:=engCopy (cp:=cp) E.l E.U E.fl E.G E.F (by have:=H.len; omega) (fun a ha=>by have:=H.cl a ha; omega)
 have h4:=Tda (cp:=cp) E.U E.fl E.G E.F g hg
 rw[ha]at h4
 simp only[engH,revO]at h1 h3 h4
 rw[Tan _ 21 A_engine_Engine_Edit _ _ (by decide) (by decide) rfl rfl rfl rfl rfl (by simp[Eng.hpR,engHR])]
 by_cases r1:rk<0
 · simp(disch:=omega)[A_engine_Engine_Edit,Eng.hpR,engHR,Tc0,h1,h2,h3,h4,Taa,Tab]
 · simp(disch:=omega)[A_engine_Engine_Edit,Eng.hpR,engHR,Tc0,h1,h2,h3,h4,Taa,Tab]
end
section
variable (E:Eng)(H:EOk E)(fz:Bool)(b g rk:Int)(c:List Ch)
include H
variable (hw:ChW c)(hb:E.fl≤b∧b≤E.fl+E.U.length-1)(hk:chk (E.textAt b) c=0)(hg:inR g)
include hw hb hk hg
variable (ha:revAdd E.U E.fl E.G E.F g= .shr (.p (.tu [pi (E.fl+E.U.length),pi 0])) [(0,revO (E.U++ [lastS E.U]) E.fl (insS g E.G) E.F)])(hr:0≤rk∧rk≤1000000)
include ha hr
set_option maxHeartbeats 4000000 in
theorem Tro (hn:4000< (E.upon b g rk c).length):Run (EX cp) 1000021 (cEditR E fz b g rk c)=some (.shr (.p (.tu [pi 0,pi 70])) (E.hpR true c)):=by
 have h1:=engText (cp:=cp) E.l E.U E.fl E.G E.F b H.fit2.fit (H.ul b) hb
 have h2:=editCheck (cp:=cp) (E.textAt b) c (H.fit2.txt b (E.ut b)) hw.1 (fun x hx=>by have:=hw.2 x hx; omega)
 have h1':txtS b (undU E.U E.fl b) E.l=E.textAt b:=rfl
 rw[h1']at h1
 rw[hk]at h2
 have h3:=engCopy (cp:=cp) E.l E.U E.fl E.G E.F (by have:=H.len; omega) (fun a ha=>by have:=H.cl a ha; omega)
 have h4:=Tda (cp:=cp) E.U E.fl E.G E.F g hg
 rw[ha]at h4
 have h5:=engUndoneAt (cp:=cp) (ats E.l) E.U E.fl E.G E.F b
 have h6:=editUpon (cp:=cp) E.l b (undU E.U E.fl b) c (E.fl+E.U.length) g rk H.fit2 (by have:=H.len; omega) (fun a ha=>by have:=H.cl a ha; omega) (H.ul b) hw.1 hw.2
 have e6:uponF E.l b (undU E.U E.fl b) c (E.fl+E.U.length) g rk=E.upon b g rk c:=rfl
 rw[e6]at h6
 have r1:decide (rk<0)=false:=decide_eq_false (by omega)
 have r2:decide (1000000<rk)=false:=decide_eq_false (by omega)
 have hlen: (ats (E.upon b g rk c)).length= (E.upon b g rk c).length:=Tka _
 generalize E.upon b g rk c=l' at *
 have r3:decide ((4000:Int)< (l'.length:Int))=true:=decide_eq_true (by omega)
 simp only[engH,revO]at h1 h3 h4 h5
 rw[Tan _ 21 A_engine_Engine_Edit _ _ (by decide) (by decide) rfl rfl rfl rfl rfl (by simp[Eng.hpR,engHR])]
 simp(disch:=omega)[A_engine_Engine_Edit,Eng.hpR,engHR,Tc0,h1,h2,h3,h4,h5,h6,hlen,Taa,Tab]
set_option maxHeartbeats 4000000 in
theorem Trp (hn: (E.upon b g rk c).length≤4000)(hs:20000< (headT (E.upon b g rk c) (E.U++ [lastS E.U]) E.fl).size)(hf:Fit (E.upon b g rk c))(hu: (undU (E.U++ [lastS E.U]) E.fl (E.fl+ (E.U++ [lastS E.U]).length-1)).length≤9223372036854775807) :
 Run (EX cp) 1000021 (cEditR E fz b g rk c)=some (.shr (.p (.tu [pi 0,pi 13])) (E.hpR true c)):=by
 have h1:=engText (cp:=cp) E.l E.U E.fl E.G E.F b H.fit2.fit (H.ul b) hb
 have h2:=editCheck (cp:=cp) (E.textAt b) c (H.fit2.txt b (E.ut b)) hw.1 (fun x hx=>by have:=hw.2 x hx; omega)
 have h1':txtS b (undU E.U E.fl b) E.l=E.textAt b:=rfl
 rw[h1']at h1
 rw[hk]at h2
 have h3:=engCopy (cp:=cp) E.l E.U E.fl E.G E.F (by have:=H.len; omega) (fun a ha=>by have:=H.cl a ha; omega)
 have h4:=Tda (cp:=cp) E.U E.fl E.G E.F g hg
 rw[ha]at h4
 have h5:=engUndoneAt (cp:=cp) (ats E.l) E.U E.fl E.G E.F b
 have h6:=editUpon (cp:=cp) E.l b (undU E.U E.fl b) c (E.fl+E.U.length) g rk H.fit2 (by have:=H.len; omega) (fun a ha=>by have:=H.cl a ha; omega) (H.ul b) hw.1 hw.2
 have e6:uponF E.l b (undU E.U E.fl b) c (E.fl+E.U.length) g rk=E.upon b g rk c:=rfl
 rw[e6]at h6
 have h7:=engFits (cp:=cp) (E.upon b g rk c) (E.U++ [lastS E.U]) E.fl (insS g E.G) E.F hf (by simp) hu
 rw[decide_eq_false (by omega:¬ ((headT (E.upon b g rk c) (E.U++ [lastS E.U]) E.fl).size:Int)≤20000)]at h7
 have r1:decide (rk<0)=false:=decide_eq_false (by omega)
 have r2:decide (1000000<rk)=false:=decide_eq_false (by omega)
 have hlen: (ats (E.upon b g rk c)).length= (E.upon b g rk c).length:=Tka _
 generalize E.upon b g rk c=l' at *
 have r3:decide ((4000:Int)< (l'.length:Int))=false:=decide_eq_false (by omega)
 simp only[engH,revO]at h1 h3 h4 h5 h7
 rw[Tan _ 21 A_engine_Engine_Edit _ _ (by decide) (by decide) rfl rfl rfl rfl rfl (by simp[Eng.hpR,engHR])]
 simp(disch:=omega)[A_engine_Engine_Edit,Eng.hpR,engHR,Tc0,h1,h2,h3,h4,h5,h6,h7,hlen,Taa,Tab]
end
section
variable (E:Eng)(H:EOk E)(fz:Bool)(b g rk:Int)(c:List Ch)
include H
theorem Tmc (hw:ChW c)(hg:inR g):Run (EX cp) 1000021 (cEditR E fz b g rk c)=some (.shr (.p (.tu [pi (E.edit b g rk c).1,pi (E.edit b g rk c).2.1])) (if(E.edit b g rk c).2.1=0 then E.hp2R (E.edit b g rk c).2.2 c else E.hpR (fz||decide (E.fl≤b∧b≤E.fl+E.U.length-1)) c)):=by
 unfold Eng.edit
 by_cases c1:E.fl≤b∧b≤E.fl+E.U.length-1
 case neg =>
  rw[if_pos c1,decide_eq_false c1,Bool.or_false]
  exact Trm E H fz b g rk c c1
 rw[if_neg (fun h=>h c1),decide_eq_true c1,Bool.or_true]
 by_cases c2:chk (E.textAt b) c=0
 case neg =>
  rw[if_pos c2]
  rw[Tu7 E H fz b g rk c hw c1 c2]
  show _=some (Ret.shr _ (if chk (E.textAt b) c=0 then _ else E.hpR true c))
  rw[if_neg c2]
 rw[if_neg (fun h=>h c2)]
 have e0:revAdd E.U E.fl E.G E.F g=if g∈E.F∨g<0∨60≤g then .shr (.p (.tu [pi 0,pi 210])) [(0,revO E.U E.fl E.G E.F)]
  else if 200≤E.fl+E.U.length-1 then .shr (.p (.tu [pi 0,pi 70])) [(0,revO E.U E.fl E.G E.F)]
  else .shr (.p (.tu [pi (E.fl+E.U.length),pi 0])) [(0,revO (E.U++ [lastS E.U]) E.fl (insS g E.G) E.F)]:=rfl
 by_cases c3:g∈E.F∨g<0∨60≤g
 · rw[if_pos c3]
   rw[if_pos c3]at e0
   exact Tmb E H fz b g rk c hw c1 c2 hg 210 (by omega) e0
 rw[if_neg c3]
 rw[if_neg c3]at e0
 by_cases c4:200≤E.fl+ (E.U.length:Int)-1
 · rw[if_pos c4]
   rw[if_pos c4]at e0
   exact Tmb E H fz b g rk c hw c1 c2 hg 70 (by omega) e0
 rw[if_neg c4]
 rw[if_neg c4]at e0
 by_cases c5:rk<0∨1000000<rk
 · rw[if_pos c5]
   exact Trn E H fz b g rk c hw c1 c2 hg e0 c5
 rw[if_neg c5]
 by_cases c6:4000< (E.upon b g rk c).length
 · rw[if_pos c6]
   exact Tro E H fz b g rk c hw c1 c2 hg e0 (by omega) c6
 rw[if_neg c6]
 have hf:=EOk.fitN E H b g rk c (by omega)
 have hu: (undU (E.U++ [lastS E.U]) E.fl (E.fl+ (E.U++ [lastS E.U]).length-1)).length≤9223372036854775807:=by
  rw[Th3 _ _ _ H.fl0]
  have:=H.us _ (Tfh E.U H.u1); have:=H.hd; omega
 by_cases c7:20000< (headT (E.upon b g rk c) (E.U++ [lastS E.U]) E.fl).size
 · rw[if_pos c7]
   exact Trp E H fz b g rk c hw c1 c2 hg e0 (by omega) (by omega) c7 hf.fit hu
 rw[if_neg c7]
 exact engEditR (cp:=cp) fz E.l E.U E.fl E.G E.F b g rk c (E.upon b g rk c) (by have:=H.len; omega) (fun a ha=>by have:=H.cl a ha; omega) H.fit2 c1 (H.ul b) hw.1 hw.2 c2 hg c3 c4 (by omega) rfl (by omega) hf.fit hu (by omega)
end
end Go.Proofs.YtjpibniecllafaaGreat.AM
end
section
namespace Go.Proofs.YtjpibniecllafaaGreat.AM
open Go Go.Proofs.YtjpibniecllafaaGreat.U
attribute [local simp] cellR thereV RV.sv innE inlE reach pos subH SV.mapr RV.mapr Ob.mapr SV.refs RV.id? RV.ref Ob.refs noRow shnE shrE okK closeB freshs at0 newS leftS finishS oneS manyS allP sameFz Ob.noPin startS entryS List.range_succ List.filterMap_cons List.filterMap_nil SV.rv fzvs fzv liveV liveR rcellss rcells fillQ fixN RV.isNil revO
variable {cp:List PV→Option Ret}
def typeF (p:ByteArray)(l:List (Int×Int)):List Ch:=l.map fun r=> ⟨loR r,hiR r,p⟩
theorem Tu8 (p:ByteArray)(R T:List (List PV))(n i:Nat)(a c x y:Int)(res:Option (Out×St))(hR:R.length=n)(hn:n≤100)(hi:i<n)(hT:T.length=i)(h1:R[i]?=some [pi a,pi c])
 (m1:Run (EX cp) 121 [.st [pi a,pi c]]=some (.val (.st [pi x,pi y])))
 (ih:Code (EX cp) L_carets_Type_0 ⟨[(1,.p (.sc (.string p))),(5,.ms 5 0 (i+1)),(9,.p (.sl 2 R)),(10,.p (pi n)),(11,.p (pi ((i:Int)+1)))],[(5,.row 49 3 false (T++ [[pi x,pi y,.sc (.string p)]]))]⟩=res) :
 Code (EX cp) L_carets_Type_0 ⟨[(1,.p (.sc (.string p))),(5,.ms 5 0 i),(9,.p (.sl 2 R)),(10,.p (pi n)),(11,.p (pi i))],[(5,.row 49 3 false T)]⟩=res:=by
 rw[← ih]
 conv=>lhs; rw[L_carets_Type_0,Tae]
 simp(maxSteps:=1000000) (disch:=omega) [hR,hi,hT,h1,m1,maxBytes,Taa,Tab,Tac,Taj,-getElem?_pos]
 rw[L_carets_Type_0]
theorem Tmd (p:ByteArray)(l:List (Int×Int))(hl:l.length≤100):∀(m i:Nat),m+i=l.length →
 Code (EX cp) L_carets_Type_0 ⟨[(1,.p (.sc (.string p))),(5,.ms 5 0 i),(9,.p (.sl 2 (cutsL l))),(10,.p (pi l.length)),(11,.p (pi i))],[(5,.row 49 3 false (chs (typeF p (l.take i))))]⟩ =
  some (.ex 0,⟨[(1,.p (.sc (.string p))),(5,.ms 5 0 l.length),(9,.p (.sl 2 (cutsL l))),(10,.p (pi l.length)),(11,.p (pi l.length)),(12,.p (pb false))],[(5,.row 49 3 false (chs (typeF p l)))]⟩)
 | 0,i,hm=>by
  obtain rfl:i=l.length:=by omega
  rw[L_carets_Type_0,Tae,List.take_length]
  generalize chs (typeF p l)=O at *
  generalize cutsL l=R at *
  generalize l.length=z at *
  simp(disch:=omega)[Tab,-getElem?_pos]
 | m+1,i,hm=>by
  have hi:i<l.length:=by omega
  have ih:=Tmd p l hl m (i+1) (by omega)
  have esn:chs (typeF p (l.take (i+1)))=chs (typeF p (l.take i))++ [[pi (loR l[i]),pi (hiR l[i]),.sc (.string p)]]:=by
   have ea:∀ a b:List Ch,chs (a++b)=chs a++chs b:=fun a b=>by simp[chs]
   unfold typeF
   rw[List.take_add_one,List.getElem?_eq_getElem hi,List.map_append,ea]
   rfl
  rw[esn]at ih
  exact Tu8 p (cutsL l) (chs (typeF p (l.take i))) l.length i l[i].1 l[i].2 _ _ _ (Ta4 l) hl hi (by rw[Tb3]; unfold typeF; rw[List.length_map,List.length_take]; omega) (Tcc l i hi) (runSpan l[i]) ih
theorem runType (p:ByteArray)(l:List (Int×Int))(hl:l.length≤100):Run (EX cp) 74 [.sl 2 (cutsL l),.sc (.string p)]=some (.own 49 3 (chs (typeF p l))):=by
 have lp:=Tmd (cp:=cp) p l hl l.length 0 (by omega)
 rw[List.take_zero,show((0:Nat):Int)=0 from rfl,show chs (typeF p [])= []from rfl]at lp
 have hbl:=Ta4 l
 have hol: (chs (typeF p l)).length=l.length:=by rw[Tb3]; exact List.length_map ..
 rw[Tah _ A_carets_Type _ rfl rfl rfl]
 generalize chs (typeF p l)=O at *
 generalize cutsL l=R at *
 simp[A_carets_Type,lp,hbl,hol]
def actV (k b g rk:Int)(c gs rs:List (List PV))(p:ByteArray)(s1 s2 s3:Int):List PV:= [pi k,pi b,pi g,pi rk,.sl 3 c,.sl 1 gs,.sl 2 rs,.sc (.string p),pi s1,pi s2,pi s3]
def vwE (E E':Eng)(r:PV)(sel sp br:List (List PV)):List (Nat×Ob):= [(0,.gr 90 5 [[.mp 1 0 0,.p r,.p (.sl 2 sel),.p (.sl 3 sp),.p (.sl 1 br)]]),(1,.gr 100 2 [[.p (.sl 5 (ats E'.l)),.mo 3]]),(2,.mpo E.U E.fl E.G E.F),(3,.mpo E'.U E'.fl E'.G E'.F)]
set_option maxHeartbeats 8000000 in
theorem vwType (E:Eng)(H:EOk E)(x:List PV)(sel:List (Int×Int))(hl:sel.length≤100)(sp br:List (List PV))(b g rk:Int)(hg:inR g)(c gs rs:List (List PV))(p:ByteArray)(hp:p.size<1000000)(s1 s2 s3:Int)(q:Int×Int×Eng)
 (hq:E.edit (E.fl+E.U.length-1) g 0 (typeF p sel)=q) (hq0:q.2.1=0) :
 Run (EX cp) 1000044 [.hp [.mp 0 0 0,.p (.st (actV 5 b g rk c gs rs p s1 s2 s3))] (vwH E (.pt x) (cutsL sel) sp br)]=some (.shr (.p (pi 0)) (vwE E q.2.2 (.pt x) (cutsL sel) sp br)):=by
 have c1:=vwHead (cp:=cp) E (.pt x) (cutsL sel) sp br
 have c2:=runType (cp:=cp) p sel hl
 have hlen: (typeF p sel).length=sel.length:=List.length_map ..
 have c3:=Tmc (cp:=cp) E H false (E.fl+E.U.length-1) g 0 (typeF p sel) ⟨by rw[hlen]; omega,fun y hy=>by
  obtain⟨r,_,rfl⟩:=List.mem_map.1 hy
  exact hp⟩ hg
 rw[hq]at c3
 rw[if_pos hq0,hq0]at c3
 have hol:=Tb3 (typeF p sel)
 simp only[cEditR,Eng.hpR,Eng.hp2R,engHR,engH2R]at c3
 unfold vwH at c1 ⊢
 unfold vwE
 obtain⟨q1,q2,E'⟩:=q
 simp only at c3 ⊢
 generalize chs (typeF p sel)=O at *
 rw[hlen]at c3 hol
 generalize cutsL sel=S at *
 rw[Tan _ 44 A_view_View_edits _ _ (by decide) (by decide) rfl rfl rfl rfl rfl (by simp)]
 simp(maxSteps:=2000000) (disch:=omega) [A_view_View_edits,actV,c1,c2,c3,hol,Taa,Tab]
end Go.Proofs.YtjpibniecllafaaGreat.AM
end
section
namespace Go.Proofs.YtjpibniecllafaaGreat.AM
open Go Go.Proofs.YtjpibniecllafaaGreat.U
variable {cp:List PV→Option Ret}
theorem Tx1 (s:ByteArray)(hv:valid (L s)=true)(a:UInt8)(t:List UInt8)(hd: (L s).drop 0=a::t):¬ cont a:=by
 intro hc
 rw[List.drop_zero]at hd
 rw[hd,Td8,dif_pos (Tj5 hc t)]at hv
 cases hv
theorem Tme (s:ByteArray)(hv:valid (L s)=true)(hs:s.size<1099511627776):∀ n,n<s.size →
 Code (EX cp) L_utf_Back_0 ⟨[(0,.p (.sc (.string s))),(1,.p (pi (n:Nat)))],[]⟩=some (.ex 0,⟨[(0,.p (.sc (.string s))),(1,.p (pi (backN (L s) n:Nat))),(20,.p (pb false))],[]⟩)
 | 0,h=>by
  obtain⟨a,t,hd⟩:=Tc4 s 0 h
  have hb:= (bt_at s 0 a t hd).1
  have hr:=Tak a
  have hc:=Tx1 s hv a t hd
  have e3:¬ bi a / 64*64=128:=by unfold cont at hc; omega
  rw[show((0:Nat):Int)=0 from rfl]at hb
  rw[L_utf_Back_0,Tae,show backN (L s) 0=0 from rfl,show((0:Nat):Int)=0 from rfl]
  simp(disch:=omega)[hb,n192,e3,Taa,Tab]
 | n+1,h=>by
  obtain⟨a,t,hd⟩:=Tc4 s (n+1) h
  have hb:= (bt_at s (n+1) a t hd).1
  have hr:=Tak a
  have hg: (L s)[n+1]?=some a:=by
   have:=congrArg (fun l=>l[0]?) hd
   simpa[List.getElem?_drop]using this
  have ih:=Tme s hv hs n (by omega)
  rw[show((n+1:Nat):Int)= (n:Int)+1 by omega]at hb ⊢
  by_cases c:cont a
  · have e3:bi a / 64*64=128:=by unfold cont at c; omega
    have e:backN (L s) (n+1)=backN (L s) n:=by simp[backN,hg,c]
    rw[e,← ih]
    conv=>lhs; rw[L_utf_Back_0,Tae]
    simp(disch:=omega)[hb,n192,e3,Taa,Tab,Tac]
    rw[L_utf_Back_0]
  · have e3:¬ bi a / 64*64=128:=by unfold cont at c; omega
    have e:backN (L s) (n+1)=n+1:=by simp[backN,hg,c]
    rw[e,L_utf_Back_0,Tae,show((n+1:Nat):Int)= (n:Int)+1 by omega]
    simp(disch:=omega)[hb,n192,e3,Taa,Tab]
theorem runBack (s:ByteArray)(hs:s.size<1099511627776)(a:Nat)(h1:1≤a)(he:edge s a=true):Run (EX cp) 123 [.sc (.string s),pi a]=some (.val (pi (backN (L s) (a-1):Nat))):=by
 have hE:=utfIsEdge (cp:=cp) s a hs
 rw[he]at hE
 obtain⟨b0,b1,_,_⟩:=Tqr he
 have hv:valid (L s)=true:=by
  unfold edge at he
  simp only[Bool.and_eq_true]at he
  exact he.2
 have lp:=Tme (cp:=cp) s hv hs (a-1) (by omega)
 rw[show((a-1:Nat):Int)= (a:Int)-1 by omega]at lp
 have hlt:¬ (a:Int)<1:=by omega
 rw[Tah _ A_utf_Back _ rfl rfl rfl]
 simp(disch:=omega)[A_utf_Back,hE,lp,hlt,Tac,Taa,Tab]
end Go.Proofs.YtjpibniecllafaaGreat.AM
end
section
namespace Go.Proofs.YtjpibniecllafaaGreat.AM
open Go Go.Proofs.YtjpibniecllafaaGreat.U
attribute [local simp] cellR thereV RV.sv innE inlE reach pos subH SV.mapr RV.mapr Ob.mapr SV.refs RV.id? RV.ref Ob.refs noRow shnE shrE okK closeB freshs at0 newS leftS finishS oneS manyS allP sameFz Ob.noPin startS entryS List.range_succ List.filterMap_cons List.filterMap_nil SV.rv fzvs fzv liveV liveR rcellss rcells fillQ fixN RV.isNil revO
variable {cp:List PV→Option Ret}
def eS:ByteArray:= ⟨#[]⟩
def bkF (s:ByteArray)(a:Int):Int:=if a<1 then a else(backN (L s) (a.toNat-1):Nat)
theorem runBackF (s:ByteArray)(hs:s.size<1099511627776)(a:Int)(he:edge s a=true):Run (EX cp) 123 [.sc (.string s),pi a]=some (.val (pi (bkF s a))):=by
 unfold bkF
 by_cases c:a<1
 · rw[if_pos c,Tah _ A_utf_Back _ rfl rfl rfl]
   simp(disch:=omega)[A_utf_Back,c,Taa,Tab]
 · rw[if_neg c]
   obtain⟨n,rfl⟩:∃ n:Nat,a=n:= ⟨a.toNat,by omega⟩
   have:=runBack (cp:=cp) s hs n (by omega) he
   rwa[Int.toNat_natCast]
def fromF (s:ByteArray)(x y:Int):Int:=if x=y then bkF s x else x
def eraseF (s:ByteArray):Int→List (Int×Int)→List Ch
 | _,[]=> []
 | e,r::l=>let a:=max (fromF s (loR r) (hiR r)) e; if hiR r≤a then eraseF s e l else⟨a,hiR r,eS⟩::eraseF s (hiR r) l
def eraseE (s:ByteArray):Int→List (Int×Int)→Int
 | e,[]=>e
 | e,r::l=>let a:=max (fromF s (loR r) (hiR r)) e; if hiR r≤a then eraseE s e l else eraseE s (hiR r) l
def erQ (s:ByteArray)(R T:List (List PV))(n i:Nat)(e:Int):St:= ⟨[(1,.p (.sc (.string s))),(5,.ms 5 0 T.length),(6,.p (pi e)),(14,.p (.sl 2 R)),(15,.p (pi n)),(16,.p (pi i))],[(5,.row 49 3 false T)]⟩
theorem Tx2 (s:ByteArray)(R T:List (List PV))(n i t:Nat)(e a c x b z:Int)(res:Option (Out×St))(hR:R.length=n)(hn:n≤8)(hi:i<n)(hT:T.length=t)(ht:t≤8)(h1:R[i]?=some [pi a,pi c])
 (m1:Run (EX cp) 121 [.st [pi a,pi c]]=some (.val (.st [pi x,pi x])))
 (m2:Run (EX cp) 123 [.sc (.string s),pi x]=some (.val (pi b)))
 (hz: (if b<e then e else b)=z) (hb:x≤z)
 (ih:Code (EX cp) L_carets_Erase_0 (erQ s R T n (i+1) e)=res) :
 Code (EX cp) L_carets_Erase_0 (erQ s R T n i e)=res:=by
 rw[← ih]
 unfold erQ
 rw[show((i+1:Nat):Int)= (i:Int)+1 by omega,hT]
 conv=>lhs; rw[L_carets_Erase_0,Tae]
 simp(maxSteps:=1000000) (disch:=omega) [hR,hi,hT,h1,m1,m2,hz,hb,maxBytes,Taa,Tab,Tac,Taj,-getElem?_pos]
 rw[L_carets_Erase_0]
theorem Tx3 (s:ByteArray)(R T:List (List PV))(n i t:Nat)(e a c x y z:Int)(res:Option (Out×St))(hR:R.length=n)(hn:n≤8)(hi:i<n)(hT:T.length=t)(ht:t≤8)(h1:R[i]?=some [pi a,pi c])
 (m1:Run (EX cp) 121 [.st [pi a,pi c]]=some (.val (.st [pi x,pi y])))
 (hx:x≠y)
 (hz: (if x<e then e else x)=z) (hb:y≤z)
 (ih:Code (EX cp) L_carets_Erase_0 (erQ s R T n (i+1) e)=res) :
 Code (EX cp) L_carets_Erase_0 (erQ s R T n i e)=res:=by
 rw[← ih]
 unfold erQ
 rw[show((i+1:Nat):Int)= (i:Int)+1 by omega,hT]
 conv=>lhs; rw[L_carets_Erase_0,Tae]
 simp(maxSteps:=1000000) (disch:=omega) [hR,hi,hT,h1,m1,hx,hz,hb,maxBytes,Taa,Tab,Tac,Taj,-getElem?_pos]
 rw[L_carets_Erase_0]
theorem Tx4 (s:ByteArray)(R T:List (List PV))(n i t:Nat)(e a c x b z:Int)(res:Option (Out×St))(hR:R.length=n)(hn:n≤8)(hi:i<n)(hT:T.length=t)(ht:t≤8)(h1:R[i]?=some [pi a,pi c])
 (m1:Run (EX cp) 121 [.st [pi a,pi c]]=some (.val (.st [pi x,pi x])))
 (m2:Run (EX cp) 123 [.sc (.string s),pi x]=some (.val (pi b)))
 (hz: (if b<e then e else b)=z) (hb:¬ x≤z)
 (ih:Code (EX cp) L_carets_Erase_0 (erQ s R (T++ [[pi z,pi x,.sc (.string eS)]]) n (i+1) x)=res) :
 Code (EX cp) L_carets_Erase_0 (erQ s R T n i e)=res:=by
 rw[← ih]
 unfold erQ
 rw[show((i+1:Nat):Int)= (i:Int)+1 by omega,List.length_append,hT]
 conv=>lhs; rw[L_carets_Erase_0,Tae]
 simp(maxSteps:=1000000) (disch:=omega) [eS,hR,hi,hT,h1,m1,m2,hz,hb,maxBytes,Taa,Tab,Tac,Taj,-getElem?_pos]
 rw[L_carets_Erase_0]
theorem Tx5 (s:ByteArray)(R T:List (List PV))(n i t:Nat)(e a c x y z:Int)(res:Option (Out×St))(hR:R.length=n)(hn:n≤8)(hi:i<n)(hT:T.length=t)(ht:t≤8)(h1:R[i]?=some [pi a,pi c])
 (m1:Run (EX cp) 121 [.st [pi a,pi c]]=some (.val (.st [pi x,pi y])))
 (hx:x≠y)
 (hz: (if x<e then e else x)=z) (hb:¬ y≤z)
 (ih:Code (EX cp) L_carets_Erase_0 (erQ s R (T++ [[pi z,pi y,.sc (.string eS)]]) n (i+1) y)=res) :
 Code (EX cp) L_carets_Erase_0 (erQ s R T n i e)=res:=by
 rw[← ih]
 unfold erQ
 rw[show((i+1:Nat):Int)= (i:Int)+1 by omega,List.length_append,hT]
 conv=>lhs; rw[L_carets_Erase_0,Tae]
 simp(maxSteps:=1000000) (disch:=omega) [eS,hR,hi,hT,h1,m1,hx,hz,hb,maxBytes,Taa,Tab,Tac,Taj,-getElem?_pos]
 rw[L_carets_Erase_0]
end Go.Proofs.YtjpibniecllafaaGreat.AM
end
section
namespace Go.Proofs.YtjpibniecllafaaGreat.AM
open Go Go.Proofs.YtjpibniecllafaaGreat.U
theorem Tu9 (s:ByteArray)(hv:valid (L s)=true)(p:Int)(hp:p= (s.size:Nat)):selB s [(p,p)]=true:=by
 have e2:edge s ((s.size:Nat):Int)=true:=by
  have:=Tkr s (L s) [] (by rw[List.append_nil]) hv Ta3
  rwa[L_len]at this
 subst hp
 simp[selB,insB,ivB,loR,hiR,edgR,e2,apB]
theorem T1w (s:ByteArray):eraseF s 0 [(0,0)]= []:=by
 have e1:loR (0,0)=0:=rfl
 have e2:hiR (0,0)=0:=rfl
 unfold eraseF
 rw[e1,e2]
 unfold fromF bkF
 simp[eraseF]
theorem ErSt.erase {A:List At}{i:Nat}{E:Eng}(hA:ErA A)(h:ErSt A i E)(hi:i<A.length) :
 eraseF E.txt 0 [((szN (A.take (A.length-i)):Nat),(szN (A.take (A.length-i)):Nat))]= [⟨(szN (A.take (A.length-i-1)):Nat),(szN (A.take (A.length-i)):Nat),eS⟩]:=by
 have hk:A.length-i-1<A.length:=by omega
 have e1:A.length-i=A.length-i-1+1:=by omega
 have et:A.take (A.length-i)=A.take (A.length-i-1)++ [A[A.length-i-1]]:=by
  conv=>lhs; rw[e1]
  rw[List.take_add_one,List.getElem?_eq_getElem hk]; rfl
 obtain⟨v,hv,hc⟩:=hA.ok _ (List.getElem_mem hk)
 have hL:L E.txt=tl (A.take (A.length-i-1))++enc v:=by
  rw[h.txt hA,et,Tyu,Tuw,hc,L_chS]
 have hbk:=Tuv (tl (A.take (A.length-i-1))) v hv
 rw[← hL,L_len,h.size hA,Td5]at hbk
 have has:=hA.ok.size _ (List.getElem_mem hk)
 have hPs:szN (A.take (A.length-i))=szN (A.take (A.length-i-1))+A[A.length-i-1].txt.size:=by
  conv=>lhs; rw[et]
  rw[Tnq,Tux]
 generalize szN (A.take (A.length-i))=p at *
 generalize szN (A.take (A.length-i-1))=q at *
 have l1:loR ((p:Int),(p:Int))=p:=by unfold loR; exact Int.min_self _
 have l2:hiR ((p:Int),(p:Int))=p:=by unfold hiR; exact Int.max_self _
 have hb:fromF E.txt p p=q:=by
  unfold fromF bkF
  rw[if_pos rfl,if_neg (by omega),show((p:Int)).toNat=p from rfl,hbk]
 have hm:max (q:Int) 0=q:=by omega
 have hn:¬ (p:Int)≤q:=by omega
 simp only[eraseF,l1,l2,hb,hm,if_neg hn]
end Go.Proofs.YtjpibniecllafaaGreat.AM
end
section
namespace Go.Proofs.YtjpibniecllafaaGreat.AM
open Go Go.Proofs.YtjpibniecllafaaGreat.U
attribute [local simp] cellR thereV RV.sv innE inlE reach pos subH SV.mapr RV.mapr Ob.mapr SV.refs RV.id? RV.ref Ob.refs noRow shnE shrE okK closeB freshs at0 newS leftS finishS oneS manyS allP sameFz Ob.noPin startS entryS List.range_succ List.filterMap_cons List.filterMap_nil SV.rv fzvs fzv liveV liveR rcellss rcells fillQ fixN RV.isNil revO
variable {cp:List PV→Option Ret}
set_option maxHeartbeats 8000000 in
theorem vwToggle (E:Eng)(H:EOk E)(x:List PV)(S sp br:List (List PV))(b g rk:Int)(hg:inR g)(c gs rs:List (List PV))(p:ByteArray)(s1 s2 s3:Int)(q:Int×Int×Eng)
 (hq:E.toggle g=q) (hq0:q.2.1=0) :
 Run (EX cp) 1000044 [.hp [.mp 0 0 0,.p (.st (actV 2 b g rk c gs rs p s1 s2 s3))] (vwH E (.pt x) S sp br)]=some (.shr (.p (pi 0)) (vwE E q.2.2 (.pt x) S sp br)):=by
 have c3:=Tq5 (cp:=cp) E H g hg
 rw[hq]at c3
 rw[if_pos hq0,hq0]at c3
 simp only[cToggle,Eng.hp,Eng.hp2,engH,engH2]at c3
 unfold vwH vwE
 obtain⟨q1,q2,E'⟩:=q
 simp only at c3 ⊢
 rw[Tan _ 44 A_view_View_edits _ _ (by decide) (by decide) rfl rfl rfl rfl rfl (by simp)]
 simp(maxSteps:=2000000) (disch:=omega) [A_view_View_edits,actV,c3,Taa,Tab]
theorem vwErase0 (E:Eng)(x:List PV)(S sp br:List (List PV))(b g rk:Int)(c gs rs:List (List PV))(p:ByteArray)(s1 s2 s3:Int)(s:ByteArray)(hr:Rp (.pt x) s)
 (h1:Run (EX cp) 75 [.sl 2 S,.sc (.string s)]=some (.own 49 3 [])) :
 Run (EX cp) 1000044 [.hp [.mp 0 0 0,.p (.st (actV 6 b g rk c gs rs p s1 s2 s3))] (vwH E (.pt x) S sp br)]=some (.shr (.p (pi 0)) (vwH E (.pt x) S sp br)):=by
 have c1:=vwText (cp:=cp) E (.pt x) S sp br s hr
 unfold vwH at c1 ⊢
 rw[Tan _ 44 A_view_View_edits _ _ (by decide) (by decide) rfl rfl rfl rfl rfl (by simp)]
 simp(maxSteps:=2000000) (disch:=omega) [A_view_View_edits,actV,c1,h1,Taa,Tab]
set_option maxHeartbeats 8000000 in
theorem vwErase1 (E:Eng)(H:EOk E)(x:List PV)(S sp br:List (List PV))(b g rk:Int)(hg:inR g)(c gs rs:List (List PV))(p:ByteArray)(s1 s2 s3:Int)(s:ByteArray)(hr:Rp (.pt x) s)(y:Ch)(hy:y.s.size<1000000)
 (h1:Run (EX cp) 75 [.sl 2 S,.sc (.string s)]=some (.own 49 3 (chs [y]))) (q:Int×Int×Eng)
 (hq:E.edit (E.fl+E.U.length-1) g 0 [y]=q) (hq0:q.2.1=0) :
 Run (EX cp) 1000044 [.hp [.mp 0 0 0,.p (.st (actV 6 b g rk c gs rs p s1 s2 s3))] (vwH E (.pt x) S sp br)]=some (.shr (.p (pi 0)) (vwE E q.2.2 (.pt x) S sp br)):=by
 have c1:=vwText (cp:=cp) E (.pt x) S sp br s hr
 have c2:=vwHead (cp:=cp) E (.pt x) S sp br
 have c3:=Tmc (cp:=cp) E H false (E.fl+E.U.length-1) g 0 [y] ⟨by simp,fun z hz=>by rw[List.mem_singleton]at hz; subst hz; exact hy⟩ hg
 rw[hq]at c3
 rw[if_pos hq0,hq0]at c3
 have hol: (chs [y]).length=1:=rfl
 simp only[cEditR,Eng.hpR,Eng.hp2R,engHR,engH2R,List.length_singleton]at c3
 unfold vwH at c1 c2 ⊢
 unfold vwE
 obtain⟨q1,q2,E'⟩:=q
 simp only at c3 ⊢
 generalize chs [y]=O at *
 rw[Tan _ 44 A_view_View_edits _ _ (by decide) (by decide) rfl rfl rfl rfl rfl (by simp)]
 simp(maxSteps:=2000000) (disch:=omega) [A_view_View_edits,actV,c1,c2,c3,h1,hol,Taa,Tab]
theorem Tmf {s:ByteArray}(h:valid (L s)=true):cleanS s=s:=by
 unfold cleanS
 rw[Ta8 _ h]; exact mk_L s
theorem vwTold (E:Eng)(H:EOk E)(hs:E.txt.size≤20000)(r:PV)(sel sp br:List (List PV)) :
 ∃ x,Rp (.pt x) E.txt∧Run (EX cp) 1000041 [.hp [.mp 0 0 0] (vwH E r sel sp br)]=some (.shr (.mp 0 0 0) (vwH E (.pt x) sel sp br)):=by
 have hv:valid (L E.txt)=true:=Th2 H.tx _ _
 rcases ropeNew (cp:=cp) E.txt (by omega)with⟨h,_⟩ | ⟨_,r',h2,h3⟩
 · rw[Tmf hv]at h; omega
 · rw[Tmf hv]at h2
   have h2':=h2
   obtain⟨x0,P,e,_⟩:=h2'
   subst e
   refine⟨[x0],h2,?_⟩
   have c1:=vwHead (cp:=cp) E r sel sp br
   have c2:=engText (cp:=cp) E.l E.U E.fl E.G E.F (E.fl+E.U.length-1) H.fit2.fit (H.ul _) (by have:=H.u1; omega)
   have ht:txtS (E.fl+E.U.length-1) (undU E.U E.fl (E.fl+E.U.length-1)) E.l=E.txt:=rfl
   rw[ht]at c2
   generalize E.txt=s at *
   unfold vwH at c1 ⊢
   simp only[engH]at c2
   rw[Tan _ 41 A_view_View_told _ _ (by decide) (by decide) rfl rfl rfl rfl rfl (by simp)]
   simp(maxSteps:=1000000) (disch:=omega) [A_view_View_told,c1,c2,h3]
end Go.Proofs.YtjpibniecllafaaGreat.AM
end
section
namespace Go.Proofs.YtjpibniecllafaaGreat.AM
open Go Go.Proofs.YtjpibniecllafaaGreat.U
attribute [local simp] cellR thereV RV.sv innE inlE reach pos subH SV.mapr RV.mapr Ob.mapr SV.refs RV.id? RV.ref Ob.refs noRow shnE shrE okK closeB freshs at0 newS leftS finishS oneS manyS allP sameFz Ob.noPin startS entryS List.range_succ List.filterMap_cons List.filterMap_nil SV.rv fzvs fzv liveV liveR rcellss rcells fillQ fixN RV.isNil revO canon pinsOf pinOb canF canP
variable {cp:List PV→Option Ret}
theorem runSpIs0 (n:Int):Run (EX cp) 137 [.sl 3 [],pi n]=some (.val (pb true)):=by
 rw[Tah _ A_spans_Is _ rfl rfl rfl]
 by_cases c:20000<n
 · simp(disch:=omega)[A_spans_Is,L_spans_Is_0,Tae,c,Taj,if_no,Taa,Tab]
 · simp(disch:=omega)[A_spans_Is,L_spans_Is_0,Tae,c,Taj,if_no,Taa,Tab]
theorem runSortS0 (f:FuncId):Run (EX cp) 217 [.sl 3 [],.fn f []]=some (.val (.tu [])):=by
 have i1:Run (EX cp) 235 [.sl 3 [],pi 0,pi 0,.fn f []]=some (.val (.tu [])):=by
  rw[Tah _ A_slices_insertionSortCmpFunc_spans_run_int _ rfl rfl rfl]
  simp(disch:=omega)[A_slices_insertionSortCmpFunc_spans_run_int,L_slices_insertionSortCmpFunc_spans_run_int_1,Tae,Tac]
 have i2:Run (EX cp) 228 [.sl 3 [],pi 0,.fn f []]=some (.val (.tu [])):=by
  rw[Tah _ A_slices_stableCmpFunc_spans_run_int _ rfl rfl rfl]
  simp(disch:=omega)[A_slices_stableCmpFunc_spans_run_int,L_slices_stableCmpFunc_spans_run_int_0,L_slices_stableCmpFunc_spans_run_int_2,Tae,i1]
 rw[Tah _ A_slices_SortStableFunc_spans_row_int_spans_run_int _ rfl rfl rfl]
 simp(disch:=omega)[A_slices_SortStableFunc_spans_row_int_spans_run_int,i2]
theorem runTold0:Run (EX cp) 140 [.sl 3 []]=some (.val (.tu [.sl 3 [],pi 0])):=by
 have s0:=runSortS0 (cp:=cp) 218
 have s1:Run (EX cp) 189 [.sl 3 []]=some (.own 237 3 []):=by
  rw[Tah _ A_spans_row_int_sorted _ rfl rfl rfl]
  simp(disch:=omega)[A_spans_row_int_sorted,L_spans_row_int_sorted_0,Tae,s0]
 rw[Tah _ A_spans_told _ rfl rfl rfl]
 simp(disch:=omega)[A_spans_told,L_spans_told_0,Tae,s1]
theorem runSpEdit0 (base:Int)(l:List Ch)(hl:l.length≤9223372036854775807)(hs:∀ x∈l,x.s.size<1099511627776)(hd:isD base l=true):Run (EX cp) 78 [.sl 3 [],.st [pi base,.sl 3 (chs l)]]=some (.val (.tu [.sl 3 [],pi 0])):=by
 have d1:=runIs (cp:=cp) base l hl hs
 rw[hd]at d1
 have d2:=runSpIs0 (cp:=cp) base
 have d3:=runTold0 (cp:=cp)
 have kL:=fun st=>LC_of (EX cp) L_spans_Edit_0 st _ rfl
 have kM:=fun st=>Tby (EX cp) L_spans_Edit_0 st _ rfl
 rw[Tah _ A_spans_Edit _ rfl rfl rfl]
 generalize chs l=R at *
 simp(disch:=omega)[A_spans_Edit,d1,d2,d3,kL,kM]
end Go.Proofs.YtjpibniecllafaaGreat.AM
end
section
namespace Go.Proofs.YtjpibniecllafaaGreat.AM
open Go Go.Proofs.YtjpibniecllafaaGreat.U
variable {cp:List PV→Option Ret}
def keptF (e:List Ch):Int:= (e.map fun x=>x.t-x.f).sum
def putF (e:List Ch):Int:= (e.map fun x=> (x.s.size:Int)).sum
theorem Tva (R:List (List PV))(n i:Nat)(a b f t:Int)(s:ByteArray)(res:Option (Out×St))(hR:R.length=n)(hn:n≤60)(hi:i<n)(h1:R[i]?=some [pi f,pi t,.sc (.string s)])
 (ha: -100000000≤a∧a≤100000000) (hb: -100000000≤b∧b≤100000000) (hf:0≤f∧f≤t∧t≤20000∧s.size≤20000)
 (ih:Code (EX cp) L_delta_sums_0 ⟨[(4,.p (pi (a+ (t-f)))),(5,.p (pi (b+s.size))),(12,.p (.sl 3 R)),(13,.p (pi n)),(14,.p (pi ((i:Int)+1)))],[]⟩=res) :
 Code (EX cp) L_delta_sums_0 ⟨[(4,.p (pi a)),(5,.p (pi b)),(12,.p (.sl 3 R)),(13,.p (pi n)),(14,.p (pi i))],[]⟩=res:=by
 rw[← ih]
 conv=>lhs; rw[L_delta_sums_0,Tae]
 simp(disch:=omega)[hR,hi,h1,Taa,Tab,Tac,Taj,-getElem?_pos]
 rw[L_delta_sums_0]
theorem Tmg (e:List Ch)(he:e.length≤60)(bd:∀ x∈e,0≤x.f∧x.f≤x.t∧x.t≤20000∧x.s.size≤20000):∀(m i:Nat) (a b:Int),m+i=e.length→0≤a→a≤20000*i→0≤b→b≤20000*i →
 Code (EX cp) L_delta_sums_0 ⟨[(4,.p (pi a)),(5,.p (pi b)),(12,.p (.sl 3 (chs e))),(13,.p (pi e.length)),(14,.p (pi i))],[]⟩ =
  some (.ex 0,⟨[(4,.p (pi (a+keptF (e.drop i)))),(5,.p (pi (b+putF (e.drop i)))),(12,.p (.sl 3 (chs e))),(13,.p (pi e.length)),(14,.p (pi e.length)),(15,.p (pb false))],[]⟩)∧0≤keptF (e.drop i)∧keptF (e.drop i)≤20000*m∧0≤putF (e.drop i)∧putF (e.drop i)≤20000*m
 | 0,i,a,b,hm,_,_,_,_=>by
  obtain rfl:i=e.length:=by omega
  have e1:keptF (e.drop e.length)=0:=by rw[List.drop_length]; rfl
  have e2:putF (e.drop e.length)=0:=by rw[List.drop_length]; rfl
  rw[e1,e2,Int.add_zero,Int.add_zero]
  refine⟨?_,by omega,by omega,by omega,by omega⟩
  rw[L_delta_sums_0,Tae]
  generalize chs e=R at *
  generalize e.length=n at *
  simp(disch:=omega)[Tab,-getElem?_pos]
 | m+1,i,a,b,hm,q1,q2,q3,q4=>by
  have hi:i<e.length:=by omega
  obtain⟨b1,b2,b3,b4⟩:=bd _ (List.getElem_mem hi)
  obtain⟨ih,g1,g2,g3,g4⟩:=Tmg e he bd m (i+1) (a+ (e[i].t-e[i].f)) (b+e[i].s.size) (by omega) (by omega) (by omega) (by omega) (by omega)
  have e1:keptF (e.drop i)= (e[i].t-e[i].f)+keptF (e.drop (i+1)):=by rw[List.drop_eq_getElem_cons hi]; unfold keptF; rw[List.map_cons,List.sum_cons]
  have e2:putF (e.drop i)=e[i].s.size+putF (e.drop (i+1)):=by rw[List.drop_eq_getElem_cons hi]; unfold putF; rw[List.map_cons,List.sum_cons]
  rw[e1,e2]
  refine⟨?_,by omega,by omega,by omega,by omega⟩
  rw[← Int.add_assoc,← Int.add_assoc]
  exact Tva (chs e) e.length i a b _ _ _ _ (Tb3 e) he hi (Tdg e i hi) (by omega) (by omega) ⟨b1,b2,b3,b4⟩ ih
theorem runSize (base:Int)(e:List Ch)(hd:isD base e=true):Run (EX cp) 142 [.st [pi base,.sl 3 (chs e)]]=some (.val (pi (keptF e+putF e))):=by
 obtain⟨b0,b1,b2,b3⟩:=Tdh hd
 have bd:=Teg base b1 e 0 0 none b3 (Int.le_refl _)
 have d1:=runIs (cp:=cp) base e (by omega) (fun x hx=>by have:=bd x hx; omega)
 rw[hd]at d1
 obtain⟨lp,g1,g2,g3,g4⟩:=Tmg (cp:=cp) e b2 bd e.length 0 0 0 (by omega) (by omega) (by omega) (by omega) (by omega)
 rw[List.drop_zero,Int.zero_add,Int.zero_add,show((0:Nat):Int)=0 from rfl]at lp
 rw[List.drop_zero]at g1 g2 g3 g4
 have hbl:=Tb3 e
 have d2:Run (EX cp) 190 [.st [pi base,.sl 3 (chs e)]]=some (.val (.tu [pi (keptF e),pi (putF e)])):=by
  rw[Tah _ A_delta_sums _ rfl rfl rfl]
  generalize chs e=R at *
  simp(disch:=omega)[A_delta_sums,d1,lp,hbl]
 rw[Tah _ A_delta_Size _ rfl rfl rfl]
 generalize chs e=R at *
 simp(disch:=omega)[A_delta_Size,d2,Tac]
theorem runBrIs0 (n:Int):Run (EX cp) 141 [.sl 1 [],pi n]=some (.val (pb true)):=by
 rw[Tah _ A_breaks_Is _ rfl rfl rfl]
 by_cases c:20000<n
 · simp(disch:=omega)[A_breaks_Is,L_breaks_Is_0,Tae,c,Taj,if_no,Taa,Tab]
 · simp(disch:=omega)[A_breaks_Is,L_breaks_Is_0,Tae,c,Taj,if_no,Taa,Tab]
theorem runBrEdit0 (base:Int)(e:List Ch)(hd:isD base e=true):Run (EX cp) 79 [.sl 1 [],.st [pi base,.sl 3 (chs e)]]=some (.val (.tu [.sl 1 [],pi 0])):=by
 obtain⟨b0,b1,b2,b3⟩:=Tdh hd
 have bd:=Teg base b1 e 0 0 none b3 (Int.le_refl _)
 have d1:=runIs (cp:=cp) base e (by omega) (fun x hx=>by have:=bd x hx; omega)
 rw[hd]at d1
 have d2:=runBrIs0 (cp:=cp) base
 have d3:=runSize (cp:=cp) base e hd
 rw[Tah _ A_breaks_Edit _ rfl rfl rfl]
 generalize chs e=R at *
 simp(disch:=omega)[A_breaks_Edit,L_breaks_Edit_0,Tae,d1,d2,d3]
end Go.Proofs.YtjpibniecllafaaGreat.AM
end
section
namespace Go.Proofs.YtjpibniecllafaaGreat.AM
open Go Go.Proofs.YtjpibniecllafaaGreat.U
attribute [local simp] cellR thereV RV.sv innE inlE reach pos subH SV.mapr RV.mapr Ob.mapr SV.refs RV.id? RV.ref Ob.refs noRow shnE shrE okK closeB freshs at0 newS leftS finishS oneS manyS allP sameFz Ob.noPin startS entryS List.range_succ List.filterMap_cons List.filterMap_nil SV.rv fzvs fzv liveV liveR rcellss rcells fillQ fixN RV.isNil revO
variable {cp:List PV→Option Ret}
def vw2 (E E0:Eng)(x x0:List PV)(sel sel0:List (List PV)):List (Nat×Ob):= [(0,.gr 90 5 [[.mp 2 0 0,.p (.pt x),.p (.sl 2 sel),.p (.sl 3 []),.p (.sl 1 [])]]),(1,.gr 90 5 [[.mp 3 0 0,.p (.pt x0),.p (.sl 2 sel0),.p (.sl 3 []),.p (.sl 1 [])]]),
 (2,.gr 100 2 [[.p (.sl 5 (ats E.l)),.mo 4]]),(3,.gr 100 2 [[.p (.sl 5 (ats E0.l)),.mo 5]]),(4,.mpo E.U E.fl E.G E.F),(5,.mpo E0.U E0.fl E0.G E0.F)]
set_option maxHeartbeats 8000000 in
theorem vwFollows (E E0:Eng)(x x0:List PV)(sel0:List (List PV))(sel:List (Int×Int))(to_ fr:Int)(hto:to_=E.fl+E.U.length-1)(hfr:fr=E0.fl+E0.U.length-1)(base:Int)(e:List Ch)
 (hb:Run (EX cp) 1000076 [.hp [.mp 0 0 0,.p (pi fr),.p (pi to_)] E.hp]=some (.shr (.p (.tu [.st [pi base,.sl 3 (chs e)],pi 0])) E.hp)) (hd:isD base e=true)
 (h1:1≤sel.length) (hl:sel.length≤8) (hin:∀ r∈sel,insB base r=true) (ho:apB (sel.map (mv2 base e))=true) :
 Run (EX cp) 1000045 [.hp [.mp 0 0 0,.mp 1 0 0] (vw2 E E0 x x0 (cutsL sel) sel0)]=some (.shr (.p (pi 0)) (vw2 E E0 x x0 (cutsL (sel.map (mv2 base e))) sel0)):=by
 have c1:=vwHead (cp:=cp) E (.pt x) (cutsL sel) [] []
 have c2:=vwHead (cp:=cp) E0 (.pt x0) sel0 [] []
 obtain⟨b0,b1,b2,b3⟩:=Tdh hd
 have bd:=Teg base b1 e 0 0 none b3 (Int.le_refl _)
 have c3:=runRegMove (cp:=cp) base e hd sel h1 hl hin ho
 have c4:=runSpEdit0 (cp:=cp) base e (by omega) (fun x hx=>by have:=bd x hx; omega) hd
 have c5:=runBrEdit0 (cp:=cp) base e hd
 rw[← hto]at c1
 rw[← hfr]at c2
 unfold vwH at c1 c2
 unfold vw2
 simp only[Eng.hp,engH]at hb
 generalize cutsL (sel.map (mv2 base e))=O at *
 generalize cutsL sel=S at *
 generalize chs e=D at *
 rw[Tan _ 45 A_view_View_follows _ _ (by decide) (by decide) rfl rfl rfl rfl rfl (by simp)]
 simp(maxSteps:=2000000) (disch:=omega) [A_view_View_follows,c1,c2,c3,c4,c5,hb]
def vwN (E0 E:Eng)(x:List PV)(sel:List (List PV)):List (Nat×Ob):= [(0,.gr 90 5 [[.mp 3 0 0,.p (.pt x),.p (.sl 2 sel),.p (.sl 3 []),.p (.sl 1 [])]]),(1,.gr 100 2 [[.p (.sl 5 (ats E0.l)),.mo 2]]),(2,.mpo E0.U E0.fl E0.G E0.F),(3,.gr 100 2 [[.p (.sl 5 (ats E.l)),.mo 4]]),(4,.mpo E.U E.fl E.G E.F)]
set_option maxHeartbeats 8000000 in
theorem vwDo (E E':Eng)(H:EOk E)(x0 x1:List PV)(S S':List (List PV))(hS:S.length≤100)(hS2:∀ c∈S,c.length=2)(k b g rk:Int)(c gs rs:List (List PV))(p:ByteArray)(s1 s2 s3:Int)(hk:k=5∨k=6)
 (h1:Run (EX cp) 1000044 [.hp [.mp 0 0 0,.p (.st (actV k b g rk c gs rs p s1 s2 s3))] (vwH E (.pt x0) S [] [])]=some (.shr (.p (pi 0)) (vwE E E' (.pt x0) S [] [])))
 (h2:Run (EX cp) 1000045 [.hp [.mp 0 0 0,.mp 1 0 0] (vw2 E' E x0 x0 S S)]=some (.shr (.p (pi 0)) (vw2 E' E x0 x0 S' S)))
 (h3:Run (EX cp) 1000041 [.hp [.mp 0 0 0] (vwH E' (.pt x0) S' [] [])]=some (.shr (.mp 0 0 0) (vwH E' (.pt x1) S' [] []))) :
 Run (EX cp) 1000015 [.hp [.mp 0 0 0,.p (.st (actV k b g rk c gs rs p s1 s2 s3))] (vwH E (.pt x0) S [] [])]=some (.shr (.p (.tu [pi (E'.fl+E'.U.length-1),pi 0])) (vwN E E' x1 S')):=by
 have c1:=vwCopy (cp:=cp) E (.pt x0) S [] [] x0 rfl H hS hS2 (by simp) (by simp)
 have c2:=vwHead (cp:=cp) E' (.pt x1) S' [] []
 have c3:=Thm (cp:=cp)
 unfold vwH at c1 c2 h1 h3 ⊢
 unfold vwE at h1
 unfold vw2 at h2
 unfold vwN
 unfold actV at h1 ⊢
 rw[Tan _ 15 A_view_View_Do _ _ (by decide) (by decide) rfl rfl rfl rfl rfl (by simp)]
 rcases hk with rfl | rfl
 · simp(maxSteps:=2000000) (disch:=omega) [A_view_View_Do,c1,c2,c3,h1,h2,h3,Taa,Tab]
 · simp(maxSteps:=2000000) (disch:=omega) [A_view_View_Do,c1,c2,c3,h1,h2,h3,Taa,Tab]
set_option maxHeartbeats 8000000 in
theorem vwDo0 (E:Eng)(H:EOk E)(x0 x1:List PV)(S S':List (List PV))(hS:S.length≤100)(hS2:∀ c∈S,c.length=2)(k b g rk:Int)(c gs rs:List (List PV))(p:ByteArray)(s1 s2 s3:Int)(hk:k=5∨k=6)
 (h1:Run (EX cp) 1000044 [.hp [.mp 0 0 0,.p (.st (actV k b g rk c gs rs p s1 s2 s3))] (vwH E (.pt x0) S [] [])]=some (.shr (.p (pi 0)) (vwH E (.pt x0) S [] [])))
 (h2:Run (EX cp) 1000045 [.hp [.mp 0 0 0,.mp 1 0 0] (vw2 E E x0 x0 S S)]=some (.shr (.p (pi 0)) (vw2 E E x0 x0 S' S)))
 (h3:Run (EX cp) 1000041 [.hp [.mp 0 0 0] (vwH E (.pt x0) S' [] [])]=some (.shr (.mp 0 0 0) (vwH E (.pt x1) S' [] []))) :
 Run (EX cp) 1000015 [.hp [.mp 0 0 0,.p (.st (actV k b g rk c gs rs p s1 s2 s3))] (vwH E (.pt x0) S [] [])]=some (.shr (.p (.tu [pi (E.fl+E.U.length-1),pi 0])) (vwN E E x1 S')):=by
 have c1:=vwCopy (cp:=cp) E (.pt x0) S [] [] x0 rfl H hS hS2 (by simp) (by simp)
 have c2:=vwHead (cp:=cp) E (.pt x1) S' [] []
 have c3:=Thm (cp:=cp)
 unfold vwH at c1 c2 h1 h3 ⊢
 unfold vw2 at h2
 unfold vwN
 unfold actV at h1 ⊢
 rw[Tan _ 15 A_view_View_Do _ _ (by decide) (by decide) rfl rfl rfl rfl rfl (by simp)]
 rcases hk with rfl | rfl
 · simp(maxSteps:=2000000) (disch:=omega) [A_view_View_Do,c1,c2,c3,h1,h2,h3,Taa,Tab]
 · simp(maxSteps:=2000000) (disch:=omega) [A_view_View_Do,c1,c2,c3,h1,h2,h3,Taa,Tab]
set_option maxHeartbeats 8000000 in
theorem vwDoT (E E':Eng)(H:EOk E)(x0 x1:List PV)(S S':List (List PV))(hS:S.length≤100)(hS2:∀ c∈S,c.length=2)(k b g rk:Int)(c gs rs:List (List PV))(p:ByteArray)(s1 s2 s3:Int)(hk:k=2)
 (h1:Run (EX cp) 1000044 [.hp [.mp 0 0 0,.p (.st (actV k b g rk c gs rs p s1 s2 s3))] (vwH E (.pt x0) S [] [])]=some (.shr (.p (pi 0)) (vwE E E' (.pt x0) S [] [])))
 (h2:Run (EX cp) 1000045 [.hp [.mp 0 0 0,.mp 1 0 0] (vw2 E' E x0 x0 S S)]=some (.shr (.p (pi 0)) (vw2 E' E x0 x0 S' S)))
 (h3:Run (EX cp) 1000041 [.hp [.mp 0 0 0] (vwH E' (.pt x0) S' [] [])]=some (.shr (.mp 0 0 0) (vwH E' (.pt x1) S' [] []))) :
 Run (EX cp) 1000015 [.hp [.mp 0 0 0,.p (.st (actV k b g rk c gs rs p s1 s2 s3))] (vwH E (.pt x0) S [] [])]=some (.shr (.p (.tu [pi (E'.fl+E'.U.length-1),pi 0])) (vwN E E' x1 S')):=by
 have c1:=vwCopy (cp:=cp) E (.pt x0) S [] [] x0 rfl H hS hS2 (by simp) (by simp)
 have c2:=vwHead (cp:=cp) E' (.pt x1) S' [] []
 have c3:=Thm (cp:=cp)
 unfold vwH at c1 c2 h1 h3 ⊢
 unfold vwE at h1
 unfold vw2 at h2
 unfold vwN
 unfold actV at h1 ⊢
 rw[Tan _ 15 A_view_View_Do _ _ (by decide) (by decide) rfl rfl rfl rfl rfl (by simp)]
 subst hk
 simp(maxSteps:=2000000) (disch:=omega) [A_view_View_Do,c1,c2,c3,h1,h2,h3,Taa,Tab]
theorem Tvb (a b:List Ch):chs (a++b)=chs a++chs b:=by simp[chs]
theorem Tdj (s:ByteArray)(hs:s.size<1099511627776)(l:List (Int×Int))(hl:l.length≤8)(hg:∀ r∈l,edgR s r=true):∀(m i:Nat) (T:List Ch) (e:Int),m+i=l.length→T.length≤i →
 Code (EX cp) L_carets_Erase_0 (erQ s (cutsL l) (chs T) l.length i e) =
  some (.ex 0,⟨[(1,.p (.sc (.string s))),(5,.ms 5 0 (T.length+ (eraseF s e (l.drop i)).length)),(6,.p (pi (eraseE s e (l.drop i)))),(14,.p (.sl 2 (cutsL l))),(15,.p (pi l.length)),(16,.p (pi l.length)),(17,.p (pb false))],[(5,.row 49 3 false (chs (T++eraseF s e (l.drop i))))]⟩)
 | 0,i,T,e,hm,hT=>by
  obtain rfl:i=l.length:=by omega
  have htl:=Tb3 T
  rw[List.drop_length]
  unfold erQ eraseF eraseE
  rw[L_carets_Erase_0,Tae,List.append_nil,List.length_nil,Nat.add_zero,htl]
  generalize chs T=O at *
  generalize cutsL l=R at *
  generalize l.length=z at *
  simp(disch:=omega)[Tab,-getElem?_pos]
 | m+1,i,T,e,hm,hT=>by
  have hi:i<l.length:=by omega
  have hmem:l[i]∈l:=List.getElem_mem hi
  have hed:=hg _ hmem
  have m1:=runSpan (cp:=cp) l[i]
  have h1:=Tcc l i hi
  rw[List.drop_eq_getElem_cons hi]
  have hrl:=Ta4 l
  have htl:=Tb3 T
  have hr: (edge s (loR l[i])=true):=by
   unfold edgR at hed
   simp only[Bool.and_eq_true]at hed
   unfold loR
   rcases Int.le_total l[i].1 l[i].2 with c | c
   · rw[Int.min_eq_left c]; exact hed.1
   · rw[Int.min_eq_right c]; exact hed.2
  have m2:=runBackF (cp:=cp) s hs (loR l[i]) hr
  unfold eraseF eraseE
  dsimp only
  by_cases c:loR l[i]=hiR l[i]
  · have ef:fromF s (loR l[i]) (hiR l[i])=bkF s (loR l[i]):=by unfold fromF; rw[if_pos c]
    rw[ef]
    rw[← c]at m1 ⊢
    have hz: (if bkF s (loR l[i])<e then e else bkF s (loR l[i]))=max (bkF s (loR l[i])) e:=by omega
    by_cases d:loR l[i]≤max (bkF s (loR l[i])) e
    · rw[if_pos d,if_pos d]
      exact Tx2 s (cutsL l) (chs T) l.length i T.length e l[i].1 l[i].2 _ _ _ _ hrl hl hi htl (by omega) h1 m1 m2 hz d (Tdj s hs l hl hg m (i+1) T e (by omega) (by omega))
    · rw[if_neg d,if_neg d]
      have ih:=Tdj s hs l hl hg m (i+1) (T++ [⟨max (bkF s (loR l[i])) e,loR l[i],eS⟩]) (loR l[i]) (by omega) (by rw[List.length_append,List.length_singleton]; omega)
      rw[Tvb,List.append_assoc,List.singleton_append,List.length_append,List.length_singleton]at ih
      rw[List.length_cons,show T.length+ ((eraseF s (loR l[i]) (l.drop (i+1))).length+1)=T.length+1+ (eraseF s (loR l[i]) (l.drop (i+1))).length by omega]
      exact Tx4 s (cutsL l) (chs T) l.length i T.length e l[i].1 l[i].2 _ _ _ _ hrl hl hi htl (by omega) h1 m1 m2 hz d ih
  · have ef:fromF s (loR l[i]) (hiR l[i])=loR l[i]:=by unfold fromF; rw[if_neg c]
    rw[ef]
    have hz: (if loR l[i]<e then e else loR l[i])=max (loR l[i]) e:=by omega
    by_cases d:hiR l[i]≤max (loR l[i]) e
    · rw[if_pos d,if_pos d]
      exact Tx3 s (cutsL l) (chs T) l.length i T.length e l[i].1 l[i].2 _ _ _ _ hrl hl hi htl (by omega) h1 m1 c hz d (Tdj s hs l hl hg m (i+1) T e (by omega) (by omega))
    · rw[if_neg d,if_neg d]
      have ih:=Tdj s hs l hl hg m (i+1) (T++ [⟨max (loR l[i]) e,hiR l[i],eS⟩]) (hiR l[i]) (by omega) (by rw[List.length_append,List.length_singleton]; omega)
      rw[Tvb,List.append_assoc,List.singleton_append,List.length_append,List.length_singleton]at ih
      rw[List.length_cons,show T.length+ ((eraseF s (hiR l[i]) (l.drop (i+1))).length+1)=T.length+1+ (eraseF s (hiR l[i]) (l.drop (i+1))).length by omega]
      exact Tx5 s (cutsL l) (chs T) l.length i T.length e l[i].1 l[i].2 _ _ _ _ hrl hl hi htl (by omega) h1 m1 c hz d ih
theorem runErase (s:ByteArray)(hs:s.size<1099511627776)(l:List (Int×Int))(hsel:selB s l=true):Run (EX cp) 75 [.sl 2 (cutsL l),.sc (.string s)]=some (.own 49 3 (chs (eraseF s 0 l))):=by
 have hl8:l.length≤8∧∀ r∈l,edgR s r=true:=by
  unfold selB at hsel
  simp only[Bool.and_eq_true,decide_eq_true_eq,List.all_eq_true]at hsel
  exact⟨hsel.1.1.1.2,hsel.1.2⟩
 have m1:=runRegIs (cp:=cp) s hs l (by omega)
 rw[hsel]at m1
 have lp:=Tdj (cp:=cp) s hs l hl8.1 hl8.2 l.length 0 [] 0 (by omega) (by simp)
 unfold erQ at lp
 rw[List.drop_zero,List.nil_append,show chs []= []from rfl,List.length_nil,List.length_nil,Nat.zero_add,show((0:Nat):Int)=0 from rfl]at lp
 have hrl:=Ta4 l
 have hol:=Tb3 (eraseF s 0 l)
 rw[Tah _ A_carets_Erase _ rfl rfl rfl]
 generalize chs (eraseF s 0 l)=O at *
 generalize(eraseF s 0 l).length=k at *
 generalize eraseE s 0 l=w at *
 generalize cutsL l=R at *
 simp[A_carets_Erase,m1,lp,hrl,hol]
theorem vwNew (H:EOk Eng.new):∃ x,Rp (.pt x) Eng.new.txt∧Run (EX cp) 1000014 [.hp [] []]=some (.shr (.mp 0 0 0) (vwH Eng.new (.pt x) (cutsL [(0,0)]) [] [])):=by
 have h0:Eng.new.txt.size≤20000:=by decide
 obtain⟨x,hx,h1⟩:=vwTold (cp:=cp) Eng.new H h0 (.sc (.pointer none)) (cutsL [(0,0)]) [] []
 refine⟨x,hx,?_⟩
 have h2:=engNew (cp:=cp)
 simp only[cutsL,cutV,List.map_cons,List.map_nil]at h1 ⊢
 simp only[Eng.new,engH,vwH,show ats []= []from rfl]at h1 h2 ⊢
 rw[Tan _ 14 A_view_New _ _ (by decide) (by decide) rfl rfl rfl rfl rfl (by simp)]
 simp(maxSteps:=1000000) (disch:=omega) [A_view_New,h1,h2,maxBytes,Taa,Tab]
end Go.Proofs.YtjpibniecllafaaGreat.AM
end
section
namespace Go.Proofs.YtjpibniecllafaaGreat.AM
open Go Go.Proofs.YtjpibniecllafaaGreat.U
variable {cp:List PV→Option Ret}
theorem vwFol (E E0:Eng)(H:EOk E)(x x0:List PV)(h h' p:Int)(hh:E0.fl+E0.U.length-1=h)(hh':E.fl+E.U.length-1=h')(hfl:E.fl≤h)(hle:h≤h')(sel0:List (List PV))
 (hp:0≤p) (hsz: ((E.textAt h).size:Int)=p) (his:isD p (btw E h h')=true) (hln: (btw E h h').length≤60) :
 Run (EX cp) 1000045 [.hp [.mp 0 0 0,.mp 1 0 0] (vw2 E E0 x x0 (cutsL [(p,p)]) sel0)]=some (.shr (.p (pi 0)) (vw2 E E0 x x0 (cutsL ([(p,p)].map (mv2 p (btw E h h')))) sel0)):=by
 have hb:=runBetween (cp:=cp) E H h h' ⟨hfl,by omega⟩ ⟨by omega,by omega⟩ hln
 have hin:∀ r∈ [(p,p)],insB p r=true:=by
  intro r hr
  rw[List.mem_singleton]at hr
  subst hr
  simp[insB,ivB,loR,hiR,hp]
 have:=vwFollows (cp:=cp) E E0 x x0 sel0 [(p,p)] h' h hh'.symm hh.symm (E.textAt h).size (btw E h h') hb (by rw[hsz]; exact his) (by simp) (by simp) (by rw[hsz]; exact hin) (by simp[apB])
 rw[hsz]at this
 exact this
section
variable (E E':Eng)(H:EOk E)(H':EOk E')(x0:List PV)(hr:Rp (.pt x0) E.txt)(hs':E'.txt.size≤20000)(p p' h h':Int)(hh:E.fl+E.U.length-1=h)(hh':E'.fl+E'.U.length-1=h')(hfl:E'.fl≤h)(hle:h≤h')(hp:0≤p)
 (b g rk:Int) (hg:inR g) (c gs rs:List (List PV)) (t:ByteArray) (s1 s2 s3:Int)
include H H' hr hs' hh hh' hfl hle hp hg
theorem doErase1 (hs:E.txt.size≤20000)(y:Ch)(hy:y.s.size<1000000)(hsel:selB E.txt [(p,p)]=true)(he:eraseF E.txt 0 [(p,p)]= [y])(k:Int)(hq:E.edit h g 0 [y]= (k,0,E'))(hd:DOk E' h h' p p') :
 ∃ x1,Rp (.pt x1) E'.txt∧Run (EX cp) 1000015 [.hp [.mp 0 0 0,.p (.st (actV 6 b g rk c gs rs t s1 s2 s3))] (vwH E (.pt x0) (cutsL [(p,p)]) [] [])]=some (.shr (.p (.tu [pi h',pi 0])) (vwN E E' x1 (cutsL [(p',p')]))):=by
 have c1:=runErase (cp:=cp) E.txt (by omega) [(p,p)] hsel
 rw[he]at c1
 have c2:=vwErase1 (cp:=cp) E H x0 (cutsL [(p,p)]) [] [] b g rk hg c gs rs t s1 s2 s3 E.txt hr y hy c1 (k,0,E') (by rw[hh]; exact hq) rfl
 have c3:=vwFol (cp:=cp) E' E H' x0 x0 h h' p hh hh' hfl hle (cutsL [(p,p)]) hp hd.sz hd.is hd.len
 rw[List.map_cons,List.map_nil,hd.mv]at c3
 obtain⟨x1,hx,c4⟩:=vwTold (cp:=cp) E' H' hs' (.pt x0) (cutsL [(p',p')]) [] []
 have:=vwDo (cp:=cp) E E' H x0 x1 (cutsL [(p,p)]) (cutsL [(p',p')]) (by simp[cutsL]) (by intro z hz; simp[cutsL,cutV]at hz; subst hz; rfl) 6 b g rk c gs rs t s1 s2 s3 (Or.inr rfl) c2 c3 c4
 rw[hh']at this
 exact⟨x1,hx,this⟩
theorem doType1 (ht:t.size<1000000)(k:Int)(hq:E.edit h g 0 [⟨p,p,t⟩]= (k,0,E'))(hd:DOk E' h h' p p') :
 ∃ x1,Rp (.pt x1) E'.txt∧Run (EX cp) 1000015 [.hp [.mp 0 0 0,.p (.st (actV 5 b g rk c gs rs t s1 s2 s3))] (vwH E (.pt x0) (cutsL [(p,p)]) [] [])]=some (.shr (.p (.tu [pi h',pi 0])) (vwN E E' x1 (cutsL [(p',p')]))):=by
 have _h:=hr
 have l1:loR (p,p)=p:=by unfold loR; exact Int.min_self _
 have l2:hiR (p,p)=p:=by unfold hiR; exact Int.max_self _
 have c2:=vwType (cp:=cp) E H x0 [(p,p)] (by simp) [] [] b g rk hg c gs rs t ht s1 s2 s3 (k,0,E') (by
  rw[hh]
  show E.edit h g 0 [⟨loR (p,p),hiR (p,p),t⟩]=_
  rw[l1,l2]; exact hq) rfl
 have c3:=vwFol (cp:=cp) E' E H' x0 x0 h h' p hh hh' hfl hle (cutsL [(p,p)]) hp hd.sz hd.is hd.len
 rw[List.map_cons,List.map_nil,hd.mv]at c3
 obtain⟨x1,hx,c4⟩:=vwTold (cp:=cp) E' H' hs' (.pt x0) (cutsL [(p',p')]) [] []
 have:=vwDo (cp:=cp) E E' H x0 x1 (cutsL [(p,p)]) (cutsL [(p',p')]) (by simp[cutsL]) (by intro z hz; simp[cutsL,cutV]at hz; subst hz; rfl) 5 b g rk c gs rs t s1 s2 s3 (Or.inl rfl) c2 c3 c4
 rw[hh']at this
 exact⟨x1,hx,this⟩
theorem doToggle1 (k:Int)(hq:E.toggle g= (k,0,E'))(hsz: ((E'.textAt h).size:Int)=p)(his:isD p (btw E' h h')=true)(hln: (btw E' h h').length≤60) :
 ∃ x1 S',Rp (.pt x1) E'.txt∧Run (EX cp) 1000015 [.hp [.mp 0 0 0,.p (.st (actV 2 b g rk c gs rs t s1 s2 s3))] (vwH E (.pt x0) (cutsL [(p,p)]) [] [])]=some (.shr (.p (.tu [pi h',pi 0])) (vwN E E' x1 S')):=by
 have _h:=hr
 have c2:=vwToggle (cp:=cp) E H x0 (cutsL [(p,p)]) [] [] b g rk hg c gs rs t s1 s2 s3 (k,0,E') hq rfl
 have c3:=vwFol (cp:=cp) E' E H' x0 x0 h h' p hh hh' hfl hle (cutsL [(p,p)]) hp hsz his hln
 obtain⟨x1,hx,c4⟩:=vwTold (cp:=cp) E' H' hs' (.pt x0) (cutsL ([(p,p)].map (mv2 p (btw E' h h')))) [] []
 have:=vwDoT (cp:=cp) E E' H x0 x1 (cutsL [(p,p)]) _ (by simp[cutsL]) (by intro z hz; simp[cutsL,cutV]at hz; subst hz; rfl) 2 b g rk c gs rs t s1 s2 s3 rfl c2 c3 c4
 rw[hh']at this
 exact⟨x1,_,hx,this⟩
end
theorem doErase0 (E:Eng)(H:EOk E)(x0:List PV)(hr:Rp (.pt x0) E.txt)(hs:E.txt.size≤20000)(h:Int)(hh:E.fl+E.U.length-1=h)(hfl:E.fl≤h)(b g rk:Int)(c gs rs:List (List PV))(t:ByteArray)(s1 s2 s3:Int)
 (he:E.txt= ⟨#[]⟩) (hd:DOk E h h 0 0) :
 ∃ x1,Rp (.pt x1) E.txt∧Run (EX cp) 1000015 [.hp [.mp 0 0 0,.p (.st (actV 6 b g rk c gs rs t s1 s2 s3))] (vwH E (.pt x0) (cutsL [(0,0)]) [] [])]=some (.shr (.p (.tu [pi h,pi 0])) (vwN E E x1 (cutsL [(0,0)]))):=by
 have hsel:selB E.txt [(0,0)]=true:=Tu9 _ (by rw[he]; exact Ta3) 0 (by rw[he]; rfl)
 have c1:=runErase (cp:=cp) E.txt (by omega) [(0,0)] hsel
 rw[T1w]at c1
 have c2:=vwErase0 (cp:=cp) E x0 (cutsL [(0,0)]) [] [] b g rk c gs rs t s1 s2 s3 E.txt hr c1
 have c3:=vwFol (cp:=cp) E E H x0 x0 h h 0 hh hh hfl (Int.le_refl _) (cutsL [(0,0)]) (Int.le_refl _) hd.sz hd.is hd.len
 rw[List.map_cons,List.map_nil,hd.mv]at c3
 obtain⟨x1,hx,c4⟩:=vwTold (cp:=cp) E H hs (.pt x0) (cutsL [(0,0)]) [] []
 have:=vwDo0 (cp:=cp) E H x0 x1 (cutsL [(0,0)]) (cutsL [(0,0)]) (by simp[cutsL]) (by intro z hz; simp[cutsL,cutV]at hz; subst hz; rfl) 6 b g rk c gs rs t s1 s2 s3 (Or.inr rfl) c2 c3 c4
 rw[hh]at this
 exact⟨x1,hx,this⟩
end Go.Proofs.YtjpibniecllafaaGreat.AM
end
section
namespace Go.Proofs.YtjpibniecllafaaGreat.wholeErase
open Go Go.Proofs.YtjpibniecllafaaGreat.U Go.Proofs.YtjpibniecllafaaGreat.AM
attribute [local simp] cellR thereV RV.sv innE inlE reach pos subH SV.mapr RV.mapr Ob.mapr SV.refs RV.id? RV.ref Ob.refs noRow shnE shrE okK closeB freshs at0 newS leftS finishS oneS manyS allP sameFz Ob.noPin startS entryS List.range_succ List.filterMap_cons List.filterMap_nil SV.rv fzvs fzv liveV liveR rcellss rcells fillQ fixN RV.isNil revO canon pinsOf pinOb canF canP
def vO (a b c:Nat)(E:Eng)(x:List PV)(S:List (List PV)):List (Nat×Ob):= [(a,.gr 90 5 [[.mp b 0 0,.p (.pt x),.p (.sl 2 S),.p (.sl 3 []),.p (.sl 1 [])]]),(b,.gr 100 2 [[.p (.sl 5 (ats E.l)),.mo c]]),(c,.mpo E.U E.fl E.G E.F)]
def lS (s:ByteArray)(n:Nat)(i:Int)(E:Eng)(x:List PV)(S:List (List PV)):St:= ⟨[(0,.p (.sc (.string s))),(3,.mp 1000 0 0),(5,.p (pi 0)),(6,.p (pi n)),(7,.p (pi i))],vO 1000 1001 1002 E x S⟩
def lT (s:ByteArray)(n:Nat)(E:Eng)(x:List PV)(S:List (List PV)):St:= ⟨[(0,.p (.sc (.string s))),(3,.mp 3 0 0),(5,.p (pi 0)),(6,.p (pi n)),(7,.p (pi n)),(39,.p (pb false))],vO 3 1001 1002 E x S⟩
abbrev aE:List PV:=actV 6 0 2 0 [] [] [] ⟨#[]⟩ 0 0 0
set_option maxHeartbeats 8000000 in
theorem round (s:ByteArray)(n i:Nat)(hi:i<n)(hn:n≤60)(E E':Eng)(x x1:List PV)(S S':List (List PV))(h:Int)(hh: -1000≤h∧h≤1000)(t:ByteArray)(P:List (List PV))
 (c1:Run (EX fun _=>none) 2000017 [.hp [.mp 0 0 0] (vwH E (.pt x) S [] [])]=some (.shn (.p (pi h)) []))
 (c2:Run (EX fun _=>none) 1000015 [.hp [.mp 0 0 0,.p (.st aE)] (vwH E (.pt x) S [] [])]=some (.shr (.p (.tu [pi (h+1),pi 0])) (vwN E E' x1 S')))
 (c3:Run (EX fun _=>none) 2000018 [.hp [.mp 0 0 0] (vwH E' (.pt x1) S' [] [])]=some (.shn (.p (.sc (.string t))) []))
 (c4:Run (EX fun _=>none) 16 [.sc (.string t)]=some (.own 9 1 P)) (hP: (P.length:Int)=n-1-i) :
 LC (EX fun _=>none) L_top_WholeErase_0 (lS s n i E x S)=LC (EX fun _=>none) L_top_WholeErase_0 (lS s n ((i:Int)+1) E' x1 S'):=by
 rw[Tby _ L_top_WholeErase_0 _ _ rfl]
 unfold vwH at c1 c2 c3
 unfold vwN at c2
 unfold aE actV at c2
 unfold lS vO
 simp(maxSteps:=1000000) (disch:=omega) [c1,c2,c3,c4,hP,hi,Taa,Tab,Tac]
theorem final (s:ByteArray)(n:Nat)(hn:n≤60)(E:Eng)(x:List PV)(S:List (List PV)):LC (EX fun _=>none) L_top_WholeErase_0 (lS s n n E x S)=some (.ex 0,lT s n E x S):=by
 rw[Tby _ L_top_WholeErase_0 _ _ rfl]
 unfold lS lT vO
 simp(disch:=omega)[Tab]
abbrev cS (A:List At) (i:Nat):List (List PV):=cutsL [((szN (A.take (A.length-i)):Nat),(szN (A.take (A.length-i)):Nat))]
theorem loop (s:ByteArray)(A:List At)(hA:ErA A):∀(m i:Nat) (E:Eng) (x:List PV),m+i=A.length→ErSt A i E→Rp (.pt x) E.txt →
 ∃ E' x',ErSt A A.length E'∧Rp (.pt x') E'.txt∧LC (EX fun _=>none) L_top_WholeErase_0 (lS s A.length i E x (cS A i))=some (.ex 0,lT s A.length E' x' (cS A A.length))
 | 0,i,E,x,hm,h,hr=>by
  obtain rfl:i=A.length:=by omega
  have h60:=Tew hA.ok
  have hsz:=hA.sz
  exact⟨E,x,h,hr,final s A.length (by omega) E x _⟩
 | m+1,i,E,x,hm,h,hr=>by
  have hi:i<A.length:=by omega
  have h60:=Tew hA.ok
  have hsz:=hA.sz
  obtain⟨E',hed,st,hd⟩:=h.step hA hi
  have ok:=h.ok hA (by omega)
  have ok':=st.ok hA (by omega)
  have s1:=h.size hA
  have s2:=st.size hA
  have t1:=Tei A (A.length-i)
  have t2:=Tei A (A.length- (i+1))
  have hv:valid (L E.txt)=true:=Th2 ok.tx _ _
  have hsel:=Tu9 E.txt hv (szN (A.take (A.length-i)):Nat) (by rw[s1])
  have her:=h.erase hA hi
  obtain⟨x1,hx,c2⟩:=doErase1 (cp:=fun _=>none) E E' ok ok' x hr (by omega) (szN (A.take (A.length-i)):Nat) (szN (A.take (A.length-i-1)):Nat) (i+1) (i+2) h.hd (by have:=st.hd; omega) (by have:=st.hfl; omega) (by omega) (by omega) 0 2 0 ⟨by omega,by omega⟩ [] [] [] ⟨#[]⟩ 0 0 0
   (by omega) _ (by show(0:Nat)<1000000; omega) hsel her _ hed hd
  have c1:=vwHead (cp:=fun _=>none) E (.pt x) (cS A i) [] []
  rw[h.hd]at c1
  have e1:A.length-i-1=A.length- (i+1):=by omega
  rw[e1]at c2
  have c3:=vwText (cp:=fun _=>none) E' (.pt x1) (cS A (i+1)) [] [] E'.txt hx
  have c4:=refPoints (cp:=fun _=>none) E'.txt (by omega)
  have hP: ((strs (ptsS (clean (L E'.txt)))).length:Int)= (A.length:Nat)-1- (i:Nat):=by
   have hv':valid (L E'.txt)=true:=Th2 ok'.tx _ _
   rw[Tec,Ta8 _ hv']
   unfold ptsS
   rw[List.length_map,st.txt hA,Tuy fun a ha=>hA.ok a (List.mem_of_mem_take ha),List.length_take]
   omega
  obtain⟨E2,x2,q1,q2,q3⟩:=loop s A hA m (i+1) E' x1 (by omega) st hx
  refine⟨E2,x2,q1,q2,?_⟩
  rw[show(i:Int)+2= (i:Int)+1+1 by omega]at c2
  rw[round s A.length i hi (by omega) E E' x x1 (cS A i) (cS A (i+1)) (i+1) ⟨by omega,by omega⟩ E'.txt _ c1 c2 c3 c4 hP]
  exact q3
end Go.Proofs.YtjpibniecllafaaGreat.wholeErase
end
section
namespace Go.Proofs.YtjpibniecllafaaGreat.AM
open Go
def isT:Option Ret→Bool
 | some (.val (.sc (.bool true)))=>true
 | _=>false
theorem T29 {x:Option Ret}(h:isT x=true):x=some (.val (pb true)):=by
 unfold isT at h
 split at h
 · rfl
 · simp at h
theorem Tvc {E:Env}{f:FuncId}{a:List PV}(n:Nat)(h:isT (call E n f a)=true):Run E f a=some (.val (pb true)):= (Tdk _ _ _ _).2 ⟨n,T29 h⟩
theorem knownTop0:Run (EX fun _=>none) 12 []=some (.val (pb true)):=Tvc 3000 (by decide +kernel)
end Go.Proofs.YtjpibniecllafaaGreat.AM
end
section
namespace Go.Proofs.YtjpibniecllafaaGreat.wholeErase
open Go Go.Proofs.YtjpibniecllafaaGreat.U Go.Proofs.YtjpibniecllafaaGreat.AM
attribute [local simp] cellR thereV RV.sv innE inlE reach pos subH SV.mapr RV.mapr Ob.mapr SV.refs RV.id? RV.ref Ob.refs noRow shnE shrE okK closeB freshs at0 newS leftS finishS oneS manyS allP sameFz Ob.noPin startS entryS List.range_succ List.filterMap_cons List.filterMap_nil SV.rv fzvs fzv liveV liveR rcellss rcells fillQ fixN RV.isNil revO canon pinsOf pinOb canF canP
def shapes:List PSh:= [.one (.tx)]
set_option maxHeartbeats 8000000 in
theorem way (s:ByteArray)(c0:s.size≤60)(n:Nat)(hn:n≤60)(E0 E1 E2:Eng)(x0 x1 x2 x3:List PV)(S0 S1 S2 S3:List (List PV))(P:List (List PV))(hP:P.length=n)(h:Int)
 (hk:Run (EX fun _=>none) 12 []=some (.val (pb true)))
 (d1:Run (EX fun _=>none) 13 [.sc (.string s)]=some (.val (pb true)))
 (d2:Run (EX fun _=>none) 1000014 [.hp [] []]=some (.shr (.mp 0 0 0) (vwH E0 (.pt x0) S0 [] [])))
 (d3:Run (EX fun _=>none) 1000015 [.hp [.mp 0 0 0,.p (.st (actV 5 0 1 0 [] [] [] s 0 0 0))] (vwH E0 (.pt x0) S0 [] [])]=some (.shr (.p (.tu [pi 1,pi 0])) (vwN E0 E1 x1 S1)))
 (d4:Run (EX fun _=>none) 16 [.sc (.string s)]=some (.own 9 1 P))
 (lp:LC (EX fun _=>none) L_top_WholeErase_0 (lS s n 0 E1 x1 S1)=some (.ex 0,lT s n E2 x2 S2))
 (d5:Run (EX fun _=>none) 2000017 [.hp [.mp 0 0 0] (vwH E2 (.pt x2) S2 [] [])]=some (.shn (.p (pi h)) []))
 (d6:Run (EX fun _=>none) 1000015 [.hp [.mp 0 0 0,.p (.st aE)] (vwH E2 (.pt x2) S2 [] [])]=some (.shr (.p (.tu [pi h,pi 0])) (vwN E2 E2 x3 S3)))
 (d7:Run (EX fun _=>none) 2000018 [.hp [.mp 0 0 0] (vwH E2 (.pt x3) S3 [] [])]=some (.shn (.p (.sc (.string ⟨#[]⟩))) []))
 (d8:¬ n=0→∃ E3 x4 S4 h',Run (EX fun _=>none) 1000015 [.hp [.mp 0 0 0,.p (.st (actV 2 0 2 0 [] [] [] ⟨#[]⟩ 0 0 0))] (vwH E2 (.pt x3) S3 [] [])]=some (.shr (.p (.tu [pi h',pi 0])) (vwN E2 E3 x4 S4)) ∧
  Run (EX fun _=>none) 2000018 [.hp [.mp 0 0 0] (vwH E3 (.pt x4) S4 [] [])]=some (.shn (.p (.sc (.string s))) [])) :
 Run (EX fun _=>none) 3 [.sc (.string s)]=some (.val (pb true)):=by
 have kL:=fun st=>LC_of (EX fun _=>none) L_top_WholeErase_0 st _ rfl
 rw[Tah _ A_top_WholeErase _ rfl rfl rfl]
 unfold lS lT vO at lp
 unfold vwH at d2 d3 d5 d6 d7
 unfold vwN at d3 d6
 unfold actV at d3
 unfold aE actV at d6
 by_cases c:n=0
 · clear d8
   subst c
   rw[show((0:Nat):Int)=0 from rfl]at lp
   simp(maxSteps:=1000000) (disch:=omega) [A_top_WholeErase,hk,c0,d1,d2,d3,d4,hP,kL,lp,d5,d6,d7,Taa,Tab,Tac]
 · obtain⟨E3,x4,S4,h',d8,d9⟩:=d8 c
   unfold vwH at d8 d9
   unfold vwN actV at d8
   have c':¬ (n:Int)=0:=by omega
   simp(maxSteps:=1000000) (disch:=omega) [A_top_WholeErase,hk,c0,d1,d2,d3,d4,hP,kL,lp,d5,d6,d7,d8,d9,c,c',Taa,Tab,Tac]
theorem law (xs:List PV)(h:WTAs shapes xs):Run EV 3 xs=some (.val (.sc (.bool true))):=by
 cases h with
 | cons h1 h =>
 cases h
 obtain⟨s,rfl,hs⟩:=T2m h1
 clear h1
 have hk:Run EV 12 []=some (.val (pb true)):=knownTop0
 rw[show EV=EX fun _=>none from rfl]at *
 by_cases c0:s.size≤60
 case neg =>
  rw[Tah _ A_top_WholeErase _ rfl rfl rfl]
  simp(disch:=omega)[A_top_WholeErase,hk,c0,Taa,Tab]
 have d1:Run (EX fun _=>none) 13 _=_:=refValid s (by omega)
 by_cases c1:valid (L s)=true
 case neg =>
  rw[Bool.not_eq_true]at c1
  rw[c1]at d1
  rw[Tah _ A_top_WholeErase _ rfl rfl rfl]
  simp(disch:=omega)[A_top_WholeErase,hk,c0,d1,Taa,Tab]
 rw[c1]at d1
 have hA:=ErA.of s c0 c1
 have h60:=Tew hA.ok
 have hsz:=hA.sz
 have tlA:=Tks s c1
 obtain⟨x0,hx0,d2⟩:=vwNew (cp:=fun _=>none) EOk.new
 obtain⟨E1,f1,st1,f3⟩:=Txz s c0 c1
 have ok1:=st1.ok hA (by omega)
 have s1:=st1.size hA
 have t1:=Tei (newAts (L s) 1 1 0) ((newAts (L s) 1 1 0).length-0)
 obtain⟨x1,hx1,d3⟩:=doType1 (cp:=fun _=>none) Eng.new E1 EOk.new ok1 x0 hx0 (by omega) 0 s.size 0 1 (by rfl) (by have:=st1.hd; omega) (by have:=st1.hfl; omega) (by omega) (by omega) 0 1 0 ⟨by omega,by omega⟩ [] [] [] s 0 0 0 (by omega) 1 f1 f3
 have d4:=refPoints (cp:=fun _=>none) s (by omega)
 have hP: (strs (ptsS (clean (L s)))).length= (newAts (L s) 1 1 0).length:=by rw[Tec,Ta8 _ c1,Tdf]; simp[ptsS]
 have hcS:cS (newAts (L s) 1 1 0) 0=cutsL [((s.size:Nat),(s.size:Nat))]:=by
  have:szN (newAts (L s) 1 1 0)=s.size:=by rw[← Td5,tlA,L_len]
  unfold cS
  rw[Nat.sub_zero,List.take_length,this]
 obtain⟨E2,x2,st2,hx2,lp⟩:=loop s (newAts (L s) 1 1 0) hA (newAts (L s) 1 1 0).length 0 E1 x1 (by omega) st1 hx1
 rw[hcS]at lp
 have ok2:=st2.ok hA (Nat.le_refl _)
 obtain⟨g1,g2⟩:=st2.none hA
 have hcE:cS (newAts (L s) 1 1 0) (newAts (L s) 1 1 0).length=cutsL [(0,0)]:=by
  unfold cS
  rw[Nat.sub_self,List.take_zero]; rfl
 rw[hcE]at lp
 have d5:=vwHead (cp:=fun _=>none) E2 (.pt x2) (cutsL [(0,0)]) [] []
 rw[st2.hd]at d5
 obtain⟨x3,hx3,d6⟩:=doErase0 (cp:=fun _=>none) E2 ok2 x2 hx2 (by rw[g1]; decide) _ st2.hd (by have:=st2.hfl; omega) 0 2 0 [] [] [] ⟨#[]⟩ 0 0 0 g1 g2
 have d7:=vwText (cp:=fun _=>none) E2 (.pt x3) (cutsL [(0,0)]) [] [] ⟨#[]⟩ (by rw[g1]at hx3; exact hx3)
 exact way s c0 (newAts (L s) 1 1 0).length (by omega) Eng.new E1 E2 x0 x1 x2 x3 _ _ _ _ _ hP _ hk d1 d2 d3 d4 lp d5 d6 d7 fun hn=>by
  obtain⟨E3,k1,k2,k3,k4,k5,k6,k7,k8⟩:=st2.back hA (by omega)
  obtain⟨x4,S4,hx4,d8⟩:=doToggle1 (cp:=fun _=>none) E2 E3 ok2 k2 x3 hx3 (by rw[← L_len,k5,tlA,L_len]; omega) 0 _ _ st2.hd k4 (by omega) (by omega) (by omega) 0 2 0 ⟨by omega,by omega⟩ [] [] [] ⟨#[]⟩ 0 0 0 _ k1 k6 k7 k8
  have he:E3.txt=s:=L_inj (by rw[k5,tlA])
  exact⟨E3,x4,S4,_,d8,vwText (cp:=fun _=>none) E3 (.pt x4) S4 [] [] s (by rw[← he]; exact hx4)⟩
end Go.Proofs.YtjpibniecllafaaGreat.wholeErase
end
