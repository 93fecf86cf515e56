/- Made by pack.py: more of it. No condition but what each says. -/
import Derived.Test.YtjpibniecllafaaGreatC21
import Derived.Test.YtjpibniecllafaaGreatC16
import Derived.Test.YtjpibniecllafaaGreatC18
import Derived.Test.YtjpibniecllafaaGreatC13
import Derived.Test.YtjpibniecllafaaGreatC19
set_option linter.unusedSimpArgs false
set_option linter.unusedVariables false
set_option maxHeartbeats 16000000
section
namespace Go.Proofs.YtjpibniecllafaaGreat.wholeCarets
open Go Go.Proofs.YtjpibniecllafaaGreat.U Go.Proofs.YtjpibniecllafaaGreat.AM
attribute [local simp] cellR thereV RV.sv innE inlE reach pos subH SV.mapr RV.mapr Ob.mapr SV.refs RV.id? RV.ref Ob.refs noRow shnE shrE okK closeB freshs at0 newS leftS finishS oneS manyS allP sameFz Ob.noPin startS entryS List.range_succ List.filterMap_cons List.filterMap_nil SV.rv fzvs fzv liveV liveR rcellss rcells fillQ fixN RV.isNil revO canon pinsOf pinOb canF canP
def dS (X:List (Nat×Ob))(t:ByteArray)(k n:Nat)(M:List (List PV))(i:Int):St:= ⟨[(1,.p (.sc (.string t))),(5,.p (pi k)),(15,.ms 15 0 n),(16,.p (pi i))],(15,.row 41 2 false M)::X⟩
theorem step1 (X:List (Nat×Ob))(hX:X= []∨∃ E:Eng,X= [(6151,.mpo E.U E.fl E.G E.F)])(t:ByteArray)(ht:t.size<=20)(k i:Nat)(hi:i<k)(hk:k<=8)(M:List (List PV))(hM:M.length=k)(p:Int)(hp:2* (i:Int)+1+ ((i:Int)+1)*t.size=p)(h1:M[i]?=some [pi p,pi p]) :
 Go.Proofs.YtjpibniecllafaaGreat.AM.Code (EX fun _=>none) L_top_WholeCarets_1 (dS X t k k M i)=Go.Proofs.YtjpibniecllafaaGreat.AM.Code (EX fun _=>none) L_top_WholeCarets_1 (dS [] t k k M ((i:Int)+1)):=by
 have hb: ((i:Int)+1)* (t.size:Int)<=160:=by
  have: ((i:Int)+1)* (t.size:Int)<=8* (t.size:Int):=Int.mul_le_mul_of_nonneg_right (by omega) (by omega)
  omega
 have hb0:0<= ((i:Int)+1)* (t.size:Int):=Int.mul_nonneg (by omega) (by omega)
 obtain⟨q,hq⟩:∃ q,((i:Int)+1)* (t.size:Int)=q:= ⟨_,rfl⟩
 rw[hq]at hb hb0 hp
 have hw:IntKind.wrap .i64 q=q:=Tab _ (by omega) (by omega)
 have hw2:IntKind.wrap .i64 (2* (i:Int)+1+q)=p:=by rw[Tab _ (by omega) (by omega)]; exact hp
 unfold dS
 conv=>lhs; rw[L_top_WholeCarets_1,Taf]
 rcases hX with rfl | ⟨E,rfl⟩
 · simp(maxSteps:=1000000) (disch:=omega) [hM,hi,h1,hq,hw,hw2,eqCells,hp,Taa,Tad,Tab,Taj,-getElem?_pos]
   rw[L_top_WholeCarets_1]
 · simp(maxSteps:=1000000) (disch:=omega) [hM,hi,h1,hq,hw,hw2,eqCells,hp,Taa,Tad,Tab,Taj,-getElem?_pos]
   rw[L_top_WholeCarets_1]
def dE (t:ByteArray)(k:Nat)(M:List (List PV)):St:= ⟨[(1,.p (.sc (.string t))),(5,.p (pi k)),(15,.ms 15 0 k),(16,.p (pi k)),(108,.p (pb false))],[(15,.row 41 2 false M)]⟩
theorem end1 (t:ByteArray)(k:Nat)(hk:k<=8)(M:List (List PV))(hM:M.length=k):Go.Proofs.YtjpibniecllafaaGreat.AM.Code (EX fun _=>none) L_top_WholeCarets_1 (dS [] t k k M k)=some (.ex 2,dE t k M):=by
 unfold dS dE
 rw[L_top_WholeCarets_1,Taf]
 simp(disch:=omega)[hM,Tad]
end Go.Proofs.YtjpibniecllafaaGreat.wholeCarets
end
section
namespace Go.Proofs.YtjpibniecllafaaGreat.AM
open Go Go.Proofs.YtjpibniecllafaaGreat.U
section
variable (fr to_:Int)(u v:List Int)
theorem Tqd:∀(l:List At) (e:List Ch) (b k:Int),(∀ a∈l,a.vis fr u=true/\a.vis to_ v=true)->bwAll fr to_ u v l (e++ [⟨b,k,⟨#[]⟩⟩],k)= (e++ [⟨b,k+szs l,⟨#[]⟩⟩],k+szs l)
 | [],e,b,k,h=>by simp[bwAll,szs]
 | a::l,e,b,k,h=>by
  have ha:=h a (List.mem_cons_self ..)
  have e1:bwStep (e++ [⟨b,k,⟨#[]⟩⟩],k) a.txt (a.vis fr u) (a.vis to_ v)= (e++ [⟨b,k+a.txt.size,⟨#[]⟩⟩],k+a.txt.size):=by
   rw[ha.1,ha.2]; simp[bwStep,dCp,cpE]
  rw[Tdt,e1,Tqd l e b _ fun b hb=>h b (List.mem_cons_of_mem _ hb)]
  have:k+a.txt.size+szs l=k+szs (a::l):=by simp[szs]; omega
  rw[this]
def opn (e:List Ch)(k:Int):Prop:=∀ x,e.getLast?=some x->¬ (cpE x=true/\x.t=k)
theorem Tk2 (l:List At)(hl:l≠ [])(e:List Ch)(k:Int)(he:opn e k)(h:∀ a∈l,a.vis fr u=true/\a.vis to_ v=true):bwAll fr to_ u v l (e,k)= (e++ [⟨k,k+szs l,⟨#[]⟩⟩],k+szs l):=by
 cases l with
 | nil=>exact absurd rfl hl
 | cons a l =>
  have ha:=h a (List.mem_cons_self ..)
  have e1:bwStep (e,k) a.txt (a.vis fr u) (a.vis to_ v)= (e++ [⟨k,k+a.txt.size,⟨#[]⟩⟩],k+a.txt.size):=by
   rw[ha.1,ha.2]
   unfold opn at he
   cases hg:e.getLast? with
   | none =>
    have:e= []:=List.getLast?_eq_none_iff.1 hg
    subst this
    simp[bwStep,dCp]
   | some x =>
    simp only[bwStep,dCp,hg,if_true]
    rw[if_neg (he x hg)]
  rw[Tdt,e1,Tqd fr to_ u v l e k _ fun b hb=>h b (List.mem_cons_of_mem _ hb)]
  have:k+a.txt.size+szs l=k+szs (a::l):=by simp[szs]; omega
  rw[this]
theorem Tqe:∀(l:List At) (e:List Ch) (p:ByteArray) (k:Int),1<=p.size-> (∀ a∈l,a.vis fr u=false/\a.vis to_ v=true)->∃ p',L p'=L p++tl l/\bwAll fr to_ u v l (e++ [⟨0,0,p⟩],k)= (e++ [⟨0,0,p'⟩],k)
 | [],e,p,k,hp,h=> ⟨p,by simp[tl],rfl⟩
 | a::l,e,p,k,hp,h=>by
  have ha:=h a (List.mem_cons_self ..)
  have hne:¬ p= ⟨#[]⟩:=by intro c; rw[c]at hp; exact absurd hp (by decide)
  have e1:bwStep (e++ [⟨0,0,p⟩],k) a.txt (a.vis fr u) (a.vis to_ v)= (e++ [⟨0,0,p++a.txt⟩],k):=by
   rw[ha.1,ha.2]; simp[bwStep,dPt,cpE,hne]
  obtain⟨p',h1,h2⟩:=Tqe l e (p++a.txt) k (by rw[ByteArray.size_append]; omega) fun b hb=>h b (List.mem_cons_of_mem _ hb)
  refine⟨p',?_,by rw[Tdt,e1,h2]⟩
  rw[h1]
  simp[Tkh,tl]
theorem Ty1 (l:List At)(hl:l≠ [])(ho:okTx l)(e:List Ch)(k:Int)(he:∀ x,e.getLast?=some x->cpE x=true)(h:∀ a∈l,a.vis fr u=false/\a.vis to_ v=true)(p:ByteArray)(hp:L p=tl l) :
 bwAll fr to_ u v l (e,k)= (e++ [⟨0,0,p⟩],k):=by
 cases l with
 | nil=>exact absurd rfl hl
 | cons a l =>
  have ha:=h a (List.mem_cons_self ..)
  have e1:bwStep (e,k) a.txt (a.vis fr u) (a.vis to_ v)= (e++ [⟨0,0,a.txt⟩],k):=by
   rw[ha.1,ha.2]
   cases hg:e.getLast? with
   | none =>
    have:e= []:=List.getLast?_eq_none_iff.1 hg
    subst this
    simp[bwStep,dPt]
   | some x=>simp[bwStep,dPt,hg,he x hg]
  obtain⟨p',h1,h2⟩:=Tqe fr to_ u v l e a.txt k (ho.size a (List.mem_cons_self ..)).1 fun b hb=>h b (List.mem_cons_of_mem _ hb)
  have:p'=p:=L_inj (by rw[h1,hp]; simp[tl])
  rw[Tdt,e1,h2,this]
end
end Go.Proofs.YtjpibniecllafaaGreat.AM
end
section
namespace Go.Proofs.YtjpibniecllafaaGreat.AM
open Go Go.Proofs.YtjpibniecllafaaGreat.U
def ils (N z:List At):List Nat->Nat->List At
 | s::sp,k=> (z.drop k).take (s-k)++N++ils N z sp s
 | [],k=>z.drop k
def dls (t:ByteArray)(n:Nat):List Nat->Nat->List Ch
 | s::sp,k=> ⟨k,s,⟨#[]⟩⟩:: ⟨0,0,t⟩::dls t n sp s
 | [],k=> [⟨k,n,⟨#[]⟩⟩]
def inc (n:Nat):List Nat->Nat->Prop
 | s::sp,k=>k<s/\inc n sp s
 | [],k=>k<n
theorem Tgj (n:Nat):∀(sp:List Nat) (k:Nat),inc n sp k->k<n
 | [],k,h=>h
 | s::sp,k,h=>Nat.lt_trans h.1 (Tgj n sp s h.2)
theorem Tv4 (now gr rk:Int)(z:List At)(t:ByteArray):∀(sp:List Nat) (k:Nat),mrg now gr rk z (sp.map fun s:Nat=> (s:Int)) (sp.map fun s:Nat=> (⟨(s:Int),(s:Int),t⟩:Ch)) k=ils (newAts (L t) now gr rk) z sp k
 | [],k=>by
  show mrg now gr rk z [] [] k=z.drop k
  rw[mrg]
  intro a b c d e
  simp at *
 | s::sp,k=>by
  rw[List.map_cons,List.map_cons,mrg,Tv4 now gr rk z t sp _,ils,Int.toNat_natCast]
theorem Tg1 {z:List At}(h:∀ a∈z,a.txt.size=1):szs z= (z.length:Nat):=by
 induction z with
 | nil=>rfl
 | cons a z ih =>
  have h1:=h a (List.mem_cons_self ..)
  have h2:=ih fun b hb=>h b (List.mem_cons_of_mem _ hb)
  have:szs (a::z)=a.txt.size+szs z:=by simp[szs]
  rw[this,h2,h1,List.length_cons]; omega
section
variable (fr to_:Int)(u v:List Int)(N z:List At)(t:ByteArray)
theorem Tzv (hz:∀ a∈z,a.vis fr u=true/\a.vis to_ v=true)(h1:∀ a∈z,a.txt.size=1)(hN:∀ a∈N,a.vis fr u=false/\a.vis to_ v=true)(hN0:N≠ [])(hNo:okTx N)(ht:L t=tl N):∀(sp:List Nat) (k:Nat) (e:List Ch),opn e k->inc z.length sp k ->
 (bwAll fr to_ u v (ils N z sp k) (e,(k:Int))).1=e++dls t z.length sp k
 | [],k,e,he,hk=>by
  have hl: (z.drop k).length=z.length-k:=List.length_drop ..
  have hk':k<z.length:=hk
  rw[ils,Tk2 fr to_ u v (z.drop k) (fun c=>by rw[c]at hl; simp at hl; omega) e k he fun a ha=>hz a (List.mem_of_mem_drop ha),Tg1 fun a ha=>h1 a (List.mem_of_mem_drop ha),hl,dls,show(k:Int)+ ((z.length-k:Nat):Int)= (z.length:Nat)by omega]
 | s::sp,k,e,he,hk=>by
  have hs:=Tgj _ sp s hk.2
  have hk1:=hk.1
  have hl: ((z.drop k).take (s-k)).length=s-k:=by rw[List.length_take,List.length_drop]; omega
  rw[ils,Tvc,Tvc,Tk2 fr to_ u v ((z.drop k).take (s-k)) (fun c=>by rw[c]at hl; simp at hl; omega) e k he fun a ha=>hz a (List.mem_of_mem_drop (List.mem_of_mem_take ha)),Tg1 fun a ha=>h1 a (List.mem_of_mem_drop (List.mem_of_mem_take ha)),hl,
   show(k:Int)+ ((s-k:Nat):Int)= (s:Nat)by omega]
  rw[Ty1 fr to_ u v N hN0 hNo _ _ (fun x hx=>by rw[List.getLast?_concat]at hx; cases hx; simp[cpE]) hN t ht]
  have hne:¬ t= ⟨#[]⟩:=by
   intro c
   cases N with
   | nil=>exact hN0 rfl
   | cons a N =>
    have h3:= (hNo.size a (List.mem_cons_self ..)).1
    have h4:=congrArg List.length ht
    rw[Tdg,L_len,c]at h4
    have h5:szN (a::N)=a.txt.size+szN N:=by simp[szN]
    have h6: (⟨#[]⟩:ByteArray).size=0:=rfl
    omega
  rw[Tzv hz h1 hN hN0 hNo ht sp s _ (fun x hx=>by rw[List.getLast?_concat]at hx; cases hx; simp[cpE,hne]) hk.2,dls]
  simp
end
theorem Tv5 (t:ByteArray)(ht:1<=t.size)(hv:valid (L t)=true)(n:Nat):∀(sp:List Nat) (k:Nat) (size:Int) (p:Option Bool),p.getD false=false-> (p=none->k=0)->inc n sp k->size+ (n-k)+sp.length*t.size<=20000->0<=size->isL n (dls t n sp k) size k p=true
 | [],k,size,p,hp,hp2,hk,hs,h0=>by
  have hk':k<n:=hk
  have e2: (⟨#[]⟩:ByteArray).size=0:=rfl
  have e3:size+ ((n:Int)-k)<=20000:=by simp at hs; omega
  simp[dls,isL,elemF,cpE,hp,e2,e3,hk']
 | s::sp,k,size,p,hp,hp2,hk,hs,h0=>by
  have hn:=Tgj _ sp s hk.2
  have hk1:=hk.1
  have hne:¬ t= ⟨#[]⟩:=by intro c; rw[c]at ht; exact absurd ht (by decide)
  have e2: (⟨#[]⟩:ByteArray).size=0:=rfl
  have hm: ((sp.length+1:Nat):Int)* (t.size:Int)=sp.length*t.size+t.size:=by rw[Int.natCast_add,Int.add_mul]; simp
  have hm0: (0:Int)<= (sp.length:Int)* (t.size:Int):=by exact Int.mul_nonneg (by omega) (by omega)
  rw[List.length_cons,hm]at hs
  have ih:=Tv5 t ht hv n sp s (size+ ((s:Int)-k)+t.size) (some false) rfl (by simp) hk.2 (by omega) (by omega)
  have e3:size+ ((s:Int)-k)<=20000:=by omega
  have e4:size+ ((s:Int)-k)+t.size<=20000:=by omega
  have e5: (t.size:Int)<=20000:=by omega
  have e6: (s:Int)<=n:=by omega
  have e7:s<=n:=by omega
  have e8:t.size<=20000:=by omega
  simp[dls,isL,elemF,cpE,hp,e2,e3,e4,e5,e6,e7,e8,hk1,hne,hv,ih]
theorem Tn7 (t:ByteArray)(n:Nat):∀(sp:List Nat) (k:Nat),(dls t n sp k).length=2*sp.length+1
 | [],k=>rfl
 | s::sp,k=>by rw[dls,List.length_cons,List.length_cons,Tn7 t n sp s,List.length_cons]; omega
theorem Ty2 (t:ByteArray)(n:Nat)(a:Nat)(m w:Int):∀ sp:List Nat,mvL a (dls t n sp a) m w= (m,w)
 | []=>by simp[dls,mvL,cpE]
 | s::sp=>by simp[dls,mvL,cpE]
theorem Tv6 (t:ByteArray)(ht:1<=t.size)(n:Nat):∀(sp:List Nat) (k:Nat) (m w:Int) (j:Nat) (hj:j<sp.length),inc n sp k ->
 (mvL (sp[j]:Nat) (dls t n sp k) m w).1+ (mvL (sp[j]:Nat) (dls t n sp k) m w).2=m+w+ ((sp[j]:Nat):Int)-k+ (j+1)*t.size/\k<sp[j]/\sp[j]<n
 | [],k,m,w,j,hj,hk=>by simp at hj
 | s::sp,k,m,w,0,hj,hk=>by
  have hn:=Tgj _ sp s hk.2
  have hk1:=hk.1
  have hne:¬ t= ⟨#[]⟩:=by intro c; rw[c]at ht; exact absurd ht (by decide)
  have h0:=Ty2 t n s
  have e1:¬ (s:Int)<=k:=by omega
  simp only[List.getElem_cons_zero]
  refine⟨?_,hk1,hn⟩
  simp[dls,mvL,cpE,hne,h0,e1]
  omega
 | s::sp,k,m,w,j+1,hj,hk=>by
  have hn:=Tgj _ sp s hk.2
  have hk1:=hk.1
  have hne:¬ t= ⟨#[]⟩:=by intro c; rw[c]at ht; exact absurd ht (by decide)
  have hj':j<sp.length:=by simpa using hj
  obtain⟨ih,i1,i2⟩:=Tv6 t ht n sp s (m+ (w+ ((s:Int)-k))) t.size j hj' hk.2
  simp only[List.getElem_cons_succ]
  refine⟨?_,by omega,i2⟩
  generalize hq:sp[j]=q at *
  have e1:¬ (q:Int)<=k:=by omega
  have e2:¬ (q:Int)<s:=by omega
  have e3:min (s:Int) q=s:=by omega
  have e4:m+ (w+ (s:Int)-k)=m+ (w+ ((s:Int)-k)):=by omega
  have e5:¬ q<=k:=by omega
  have e6:¬ q<s:=by omega
  have e7: ((j+1:Nat):Int)+1= ((j:Int)+1)+1:=by omega
  rw[e7,Int.add_mul ((j:Int)+1) 1,Int.one_mul]
  have:mvL q (dls t n (s::sp) k) m w=mvL q (dls t n sp s) (m+ (w+ ((s:Int)-k))) t.size:=by
   simp[dls,mvL,cpE,hne,e1,e2,e3,e4,e5,e6]
  rw[this]
  omega
end Go.Proofs.YtjpibniecllafaaGreat.AM
end
section
namespace Go.Proofs.YtjpibniecllafaaGreat.AM
open Go Go.Proofs.YtjpibniecllafaaGreat.U
theorem Tim:∀ n:Nat,n<128->enc (n:Int)= [UInt8.ofNat n]:=by decide +kernel
theorem Tqf:∀ n:Nat,n<128->sc (n:Int):=by decide +kernel
theorem Tsg (n:Nat)(h:n<128)(r:List UInt8):points (UInt8.ofNat n::r)= (n:Int)::points r:=by
 have:=Tb8 (Tqf n h) r
 rw[Tim n h]at this; exact this
theorem Tfm (n:Nat)(h:n<128)(r:List UInt8):valid (UInt8.ofNat n::r)=valid r:=by
 have:=Tbk (Tqf n h) r
 rw[Tim n h]at this; exact this
theorem Tej (n:Nat)(h:n<128)(r:List UInt8)(rv gr rk:Int):newAts (UInt8.ofNat n::r) rv gr rk= ⟨⟨#[UInt8.ofNat n]⟩,rv,gr,rk,[]⟩::newAts r rv gr rk:=by
 unfold newAts
 rw[Tsg n h,List.map_cons]
 unfold chS
 rw[Tim n h]
theorem Tga (rv gr rk:Int):newAts [] rv gr rk= []:=by unfold newAts; rw[Tba]; rfl
namespace Rk
def chr (i:Nat):ByteArray:= ⟨#[UInt8.ofNat (48+i)]⟩
theorem L_chr (i:Nat):L (chr i)= [UInt8.ofNat (48+i)]:=rfl
def rkOf (rs:List UInt8)(j:Nat):Nat:= (rs.getD j 0).toNat % 4
def mid (rs:List UInt8)(j:Nat):At:= ⟨chr j,2+j,2+j,rkOf rs j,[]⟩
def br:At:= ⟨⟨#[91]⟩,1,1,0,[]⟩
def bl:At:= ⟨⟨#[93]⟩,1,1,0,[]⟩
def B0:ByteArray:= ⟨#[91,93]⟩
def rl (rs:List UInt8)(row:List Nat):List At:=br:: (row.map (mid rs)++ [bl])
def kOf (rs:List UInt8)(r:Nat):List Nat->Nat
 | []=>0
 | j::row=>if rkOf rs j<=r then kOf rs r row+1 else 0
def rowOf (rs:List UInt8):Nat->List Nat
 | 0=> []
 | i+1=> (rowOf rs i).take (kOf rs (rkOf rs i) (rowOf rs i))++ [i]++ (rowOf rs i).drop (kOf rs (rkOf rs i) (rowOf rs i))
def gs:Nat->List Int
 | 0=> [1]
 | i+1=>insS (2+i) (gs i)
def rE (rs:List UInt8)(i:Nat):Eng:= ⟨rl rs (rowOf rs i),List.replicate (i+2) [],0,gs i,[]⟩
theorem Tv7 (rs:List UInt8)(r:Nat):∀ row,kOf rs r row<=row.length
 | []=>Nat.le_refl _
 | j::row=>by
  have:=Tv7 rs r row
  unfold kOf
  split
  · simp; omega
  · omega
theorem Tin (rs:List UInt8):∀ i,(rowOf rs i).length=i
 | 0=>rfl
 | i+1=>by
  have:=Tv7 rs (rkOf rs i) (rowOf rs i)
  have h:=Tin rs i
  unfold rowOf
  simp only[List.length_append,List.length_take,List.length_drop,List.length_singleton]
  omega
theorem Tk3 (rs:List UInt8):∀ i,∀ j∈rowOf rs i,j<i
 | 0,j,h=>by simp[rowOf]at h
 | i+1,j,h=>by
  unfold rowOf at h
  simp only[List.mem_append,List.mem_singleton]at h
  rcases h with(h | h) | h
  · have:=Tk3 rs i j (List.mem_of_mem_take h); omega
  · omega
  · have:=Tk3 rs i j (List.mem_of_mem_drop h); omega
theorem vis0 (t:ByteArray)(rv gr rk rev:Int): (⟨t,rv,gr,rk,[]⟩:At).vis rev []=decide (rv<=rev):=by
 unfold At.vis holdsF; simp
theorem Tqg (rs:List UInt8)(rev:Int):∀ row:List Nat,(∀ j∈row,((2+j:Nat):Int)<=rev)->txtF rev [] (row.map (mid rs))=row.map fun j=>UInt8.ofNat (48+j)
 | [],_=>rfl
 | j::row,h=>by
  have hj:=h j (by simp)
  rw[List.map_cons,txtF,if_pos (by unfold mid; rw[vis0]; exact decide_eq_true (by omega)),Tqg rs rev row fun x hx=>h x (by simp[hx])]
  rfl
theorem Ty3 (rs:List UInt8)(row:List Nat):txtF 1 [] (row.map (mid rs))= []:=by
 refine Tl2 _ _ _ fun a ha=> ?_
 obtain⟨j,_,rfl⟩:=List.mem_map.1 ha
 unfold mid
 rw[vis0]; exact decide_eq_false (by omega)
theorem Tzw (rs:List UInt8)(row:List Nat)(rev:Int)(h:1<=rev):txtF rev [] (rl rs row)=91:: (txtF rev [] (row.map (mid rs))++ [93]):=by
 unfold rl
 rw[txtF,if_pos (by unfold br; rw[vis0]; exact decide_eq_true h),Tbj]
 have:txtF rev [] [bl]= [93]:=by
  rw[txtF,if_pos (by unfold bl; rw[vis0]; exact decide_eq_true h)]; rfl
 rw[this]; rfl
theorem Tqh (rs:List UInt8)(row:List Nat):txtS 1 [] (rl rs row)=B0:=by
 apply L_inj
 rw[show L (txtS 1 [] (rl rs row))=_ from L_mk _,Tzw rs row 1 (Int.le_refl _),Ty3]
 rfl
theorem Tqi (rs:List UInt8)(i:Nat):txtS ((i:Int)+1) [] (rl rs (rowOf rs i))= ⟨(91:: ((rowOf rs i).map (fun j=>UInt8.ofNat (48+j))++ [93])).toArray⟩:=by
 apply L_inj
 rw[show L (txtS _ [] (rl rs (rowOf rs i)))=_ from L_mk _,Tzw rs _ _ (by omega),Tqg rs _ _ fun j hj=>by have:=Tk3 rs i j hj; omega,L_mk]
theorem Tk4:valid (L B0)=true:=by
 show valid (UInt8.ofNat 91::UInt8.ofNat 93:: [])=true
 rw[Tfm 91 (by omega),Tfm 93 (by omega),Ta0]
theorem Tv8:edge B0 1=true:=by
 unfold edge
 rw[Tk4]
 decide
theorem T4e (rv gr rk:Int):newAts (L B0) rv gr rk= [⟨⟨#[91]⟩,rv,gr,rk,[]⟩,⟨⟨#[93]⟩,rv,gr,rk,[]⟩]:=by
 show newAts (UInt8.ofNat 91::UInt8.ofNat 93:: []) rv gr rk=_
 rw[Tej 91 (by omega),Tej 93 (by omega),Tga]
 rfl
theorem T2z (i:Nat)(h:i<80)(rv gr rk:Int):newAts (L (chr i)) rv gr rk= [⟨chr i,rv,gr,rk,[]⟩]:=by
 rw[L_chr,Tej (48+i) (by omega),Tga]
 rfl
theorem chk0 (i:Nat)(h:i<80):chk B0 [⟨1,1,chr i⟩]=0 :=
 Tnx _ _ Tk4 (show(0:Int)<=1 by omega) (show(1:Int)<=1 by omega) (show(1:Int)<=2 by omega) Tv8 Tv8 (by show valid (L (chr i))=true; rw[L_chr,Tfm (48+i) (by omega),Ta0]) (by decide) (by show 1<=10000; omega)
theorem skip (rs:List UInt8)(r:Nat):∀ row:List Nat,skN 1 r (row.map (mid rs)++ [bl])=kOf rs r row
 | []=>by
  show skN 1 r [bl]=0
  rw[skN,if_neg]
  unfold bl; simp
 | j::row=>by
  rw[List.map_cons,List.cons_append,skN,kOf,skip rs r row]
  have e: ((1:Int)< (mid rs j).rv/\ (mid rs j).rk<= (r:Int))↔rkOf rs j<=r:=by
   unfold mid
   simp only
   omega
  by_cases c:rkOf rs j<=r
  · rw[if_pos (e.2 c),if_pos c]
  · rw[if_neg (fun h=>c (e.1 h)),if_neg c]
theorem upon (rs:List UInt8)(i:Nat)(h:i<80):uponF (rl rs (rowOf rs i)) 1 [] [⟨1,1,chr i⟩] (2+i) (2+i) (rkOf rs i)=rl rs (rowOf rs (i+1)):=by
 have hsp:spotF 1 [] (rkOf rs i) (rl rs (rowOf rs i)) (places 1 [] (rl rs (rowOf rs i))) 1=1+kOf rs (rkOf rs i) (rowOf rs i):=by
  have:=Tib 1 [] (rkOf rs i) [br] ((rowOf rs i).map (mid rs)++ [bl]) (fun a ha=>by
   rw[List.mem_singleton]at ha; subst ha
   exact⟨by unfold br; rw[vis0]; rfl,by decide⟩) 1 (by
   rw[txtF,if_pos (by unfold br; rw[vis0]; rfl)]; rfl)
  rw[skip]at this
  exact this
 rw[Tp0 _ 1 [] 1 (chr i) _ _ _ (by rw[Tqh]; exact chk0 i h) _ hsp,T2z i h]
 have hk:=Tv7 rs (rkOf rs i) (rowOf rs i)
 rw[rowOf]
 generalize kOf rs (rkOf rs i) (rowOf rs i)=k at *
 unfold rl
 rw[show 1+k=k+1 by omega,List.take_succ_cons,List.drop_succ_cons,List.take_append_of_le_length (by simpa using hk),List.drop_append_of_le_length (by simpa using hk)]
 simp[mid,List.map_take,List.map_drop]
theorem ok0:EOk (Eng.new.edit 0 1 0 [⟨0,0,B0⟩]).2.2:=EOk.edit EOk.new _ _ _ _
theorem first (rs:List UInt8):Eng.new.edit 0 1 0 [⟨0,0,B0⟩]= (1,0,rE rs 0):=by
 obtain⟨c0,c1⟩:=Tjn B0 1 1 0 Tk4 (by decide)
 rw[T4e]at c1
 exact Eng.edit_good Eng.new 0 1 0 _ _ (by simp[Eng.new]) c0 (by simp[Eng.new]) (by simp[Eng.new]) (by omega) c1 (show 2<=4000 by omega) (by
  show(headT (rl rs []) (List.replicate 2 []) 0).size<=20000
  rw[Tid]
  have:=Tqi rs 0
  rw[show((2:Nat):Int)-1= ((0:Nat):Int)+1 by omega]
  show(txtS _ [] (rl rs (rowOf rs 0))).size<=20000
  rw[this,Th2]; simp[rowOf])
theorem step (rs:List UInt8)(i:Nat)(h:i<20): (rE rs i).edit 1 (2+i) (rkOf rs i) [⟨1,1,chr i⟩]= (2+ (i:Int),0,rE rs (i+1)):=by
 have hr:rkOf rs i<4:=Nat.mod_lt _ (by omega)
 have hs: (headT (rl rs (rowOf rs (i+1))) (List.replicate (i+2) []++ [lastS (List.replicate (i+2) [])]) 0).size<=20000:=by
  rw[Td5,Tgy,Tid,show((i+2+1:Nat):Int)-1= ((i+1:Nat):Int)+1 by omega,Tqi,Th2]
  simp[Tin]; omega
 have e0: (rE rs i).fl+ ((rE rs i).U.length:Int)=2+i:=by simp[rE]; omega
 have:=Eng.edit_good (rE rs i) 1 (2+i) (rkOf rs i) [⟨1,1,chr i⟩] (rl rs (rowOf rs (i+1))) (by simp[rE]; omega) (by
  show chk (txtS 1 (undU (List.replicate (i+2) []) 0 1) (rl rs (rowOf rs i))) _=0
  rw[Tfi,Tqh]; exact chk0 i (by omega)) ⟨by simp[rE],by omega,by omega⟩ (by omega) (by omega) (by
  show uponF (rl rs (rowOf rs i)) 1 (undU (List.replicate (i+2) []) 0 1) _ ((rE rs i).fl+ ((rE rs i).U.length:Int)) _ _=_
  rw[Tfi,e0]
  exact upon rs i (by omega)) (by simp[rl,Tin]; omega) hs
 rw[this,e0]
 show(_,_,(⟨_,List.replicate (i+2) []++ [lastS (List.replicate (i+2) [])],_,_,_⟩:Eng))=_
 rw[Td5,Tgy]
 rfl
theorem ok (rs:List UInt8):∀ i,i<=20->EOk (rE rs i)
 | 0,_=>by have:=ok0; rw[first rs]at this; exact this
 | i+1,h=>by
  have:=EOk.edit (ok rs i (by omega)) 1 (2+i) (rkOf rs i) [⟨1,1,chr i⟩]
  rw[step rs i (by omega)]at this
  exact this
end Rk
theorem Tgk (rv gr rk:Int):∀ l:List UInt8,(∀ b∈l,b.toNat<128)->newAts l rv gr rk=l.map fun b=> ⟨⟨#[b]⟩,rv,gr,rk,[]⟩
 | [],h=>Tga rv gr rk
 | b::l,h=>by
  have hb:UInt8.ofNat b.toNat=b:=by simp
  have:=Tej b.toNat (h b (List.mem_cons_self ..)) l rv gr rk
  rw[hb]at this
  rw[this,Tgk rv gr rk l fun c hc=>h c (List.mem_cons_of_mem _ hc),List.map_cons]
theorem Tca:∀ l:List UInt8,(∀ b∈l,b.toNat<128)->valid l=true
 | [],h=>Ta0
 | b::l,h=>by
  have hb:UInt8.ofNat b.toNat=b:=by simp
  have:=Tfm b.toNat (h b (List.mem_cons_self ..)) l
  rw[hb]at this
  rw[this]; exact Tca l fun c hc=>h c (List.mem_cons_of_mem _ hc)
theorem Era.all {A l:List At}(h:Era A 0 l):l=A:=by
 obtain⟨Q,h1,h2,h3⟩:=h
 rw[Nat.sub_zero,List.drop_length,List.map_nil,List.map_eq_nil_iff]at h2
 rw[h1,h2,Nat.sub_zero,List.take_length,List.append_nil]
theorem Tqj {z:List At}(h:∀ a∈z,a.txt.size=1)(k:Nat)(hk:k<=z.length): (tl (z.take k)).length=k:=by
 have:szs (z.take k)= ((z.take k).length:Nat):=Tg1 fun a ha=>h a (List.mem_of_mem_take ha)
 rw[Tn5]at this
 rw[Tdg]
 have h2: (z.take k).length=k:=by rw[List.length_take]; omega
 omega
theorem Tv9 (s t:ByteArray):∀(sp:List Nat) (n:Int),lngA s n (sp.map fun s:Nat=> (⟨(s:Int),(s:Int),t⟩:Ch))=n
 | [],n=>rfl
 | a::sp,n=>by
  rw[List.map_cons,lngA,Tv9 s t sp]
  have e1:IntKind.wrap .i64 ((a:Int)-a)=0:=by rw[Int.sub_self]; rfl
  simp only[e1]
  omega
theorem Tqk (t:ByteArray):∀(sp:List Nat) (n:Int),(sp.length:Int)*t.size<=n->lngB n (sp.map fun s:Nat=> (⟨(s:Int),(s:Int),t⟩:Ch))=some (n-sp.length*t.size)
 | [],n,h=>by simp[lngB]
 | a::sp,n,h=>by
  have hm: ((sp.length+1:Nat):Int)* (t.size:Int)=sp.length*t.size+t.size:=by rw[Int.natCast_add,Int.add_mul]; simp
  have hm0: (0:Int)<= (sp.length:Int)* (t.size:Int):=Int.mul_nonneg (by omega) (by omega)
  rw[List.length_cons,hm]at h
  rw[List.map_cons,lngB,if_neg (by show ¬ n< (t.size:Int); omega),Tqk t sp _ (by show(sp.length:Int)*t.size<=n- (t.size:Int); omega),List.length_cons,hm]
  show some (n- (t.size:Int)-_)=_
  congr 1; omega
theorem Tql (n:Nat)(t:ByteArray):∀(sp:List Nat) (k:Nat),inc n sp k->ordd (sp.map fun s:Nat=> (⟨(s:Int),(s:Int),t⟩:Ch))=true
 | [],k,h=>rfl
 | [a],k,h=>rfl
 | a::b::sp,k,h=>by
  have h1:a<b:=h.2.1
  have ih:=Tql n t (b::sp) a h.2
  rw[List.map_cons,List.map_cons,ordd]
  rw[List.map_cons]at ih
  have e1:¬ (b:Int)< (a:Int):=by omega
  have e2:¬ (a:Int)= (b:Int):=by omega
  simp[e1,e2,ih]
theorem Tgb (n:Nat):∀(sp:List Nat) (k:Nat),inc n sp k->∀ a∈sp,k<a/\a<n
 | [],k,h,a,ha=>by simp at ha
 | s::sp,k,h,a,ha=>by
  rcases List.mem_cons.1 ha with rfl | ha
  · exact⟨h.1,Tgj n sp _ h.2⟩
  · have:=Tgb n sp s h.2 a ha
    have:=h.1
    omega
theorem Tek (s:ByteArray)(h:∀ b∈L s,b.toNat<128)(k:Nat)(hk:k<=s.size):edge s (k:Nat)=true:=by
 have:=Tk0 s ((L s).take k) ((L s).drop k) (List.take_append_drop k (L s)).symm (Tca _ fun b hb=>h b (List.mem_of_mem_take hb)) (Tca _ fun b hb=>h b (List.mem_of_mem_drop hb))
 have hl: ((L s).take k).length=k:=by rw[List.length_take,L_len]; omega
 rwa[hl]at this
theorem Tsh (rev:Int)(u:List Int)(rank:Int)(l:List At)(hv:∀ a∈l,a.vis rev u=true)(ho:okTx l)(h1:∀ a∈l,a.txt.size=1)(k:Nat)(he:edge (txtS rev u l) (k:Nat)=true)(hk:k<=l.length) :
 spotF rev u rank l (places rev u l) (k:Nat)=k:=by
 obtain⟨q1,q2,q3⟩:=Tu1 rev u rank l hv ho (k:Nat) he
 have h2:=congrArg List.length q2
 rw[Tqj h1 _ q1,Int.toNat_natCast,List.length_take]at h2
 have h3:=Tqj h1 l.length (Nat.le_refl _)
 rw[List.take_length]at h3
 omega
theorem Twa:∀ l:List (Int×Int),(∀ i (h:i+1<l.length),hiR l[i]<loR l[i+1])->apB l=true
 | [],h=>rfl
 | [a],h=>rfl
 | a::b::l,h=>by
  rw[apB,Bool.and_eq_true,decide_eq_true_eq]
  refine⟨h 0 (by simp),Twa (b::l) fun i hi=> ?_⟩
  have:=h (i+1) (by simpa using hi)
  simpa using this
end Go.Proofs.YtjpibniecllafaaGreat.AM
end
