/- Made by pack.py: VP1, VD1, VD2, VP2, VP5, VP6, VP7, RC1, RC2, RT1, RT2, RT3, RT4, RT5, RP1, RP4, VP8, VP9, VP10, VD1a, VD1b, VD1c, VD1d, VD1e, VD1f, VD1g, VD3. No condition but what each says. -/
import Derived.Test.YtjpibniecllafaaGreatE13
import Derived.Test.YtjpibniecllafaaGreatE10
import Derived.Test.YtjpibniecllafaaGreatE11
import Derived.Test.YtjpibniecllafaaGreatE12
set_option linter.unusedSimpArgs false
set_option linter.unusedVariables false
section
namespace Go.Proofs.YtjpibniecllafaaGreat.AM
open Go Go.Proofs.YtjpibniecllafaaGreat.U
theorem Th4 (fr to_:Int)(u v:List Int)(a:At)(l:List At)(q:List Ch×Int):bwAll fr to_ u v (a::l) q=bwAll fr to_ u v l (bwStep q a.txt (a.vis fr u) (a.vis to_ v)):=rfl
theorem T23 (fr to_:Int)(u v:List Int)(l m:List At)(q:List Ch×Int):bwAll fr to_ u v (l++m) q=bwAll fr to_ u v m (bwAll fr to_ u v l q):=by
 unfold bwAll; rw[List.foldl_append]
theorem Tnj (fr to_:Int)(u v:List Int):∀(l:List At) (q:List Ch×Int),(∀ a∈l,a.vis to_ v=false)→ (bwAll fr to_ u v l q).1=q.1
 | [],q,h=>rfl
 | a::l,q,h=>by
  rw[Th4,Tnj fr to_ u v l _ fun b hb=>h b (List.mem_cons_of_mem _ hb),h a (List.mem_cons_self ..)]
  unfold bwStep
  simp
def szs (l:List At):Int:= (l.map fun a=> (a.txt.size:Int)).foldr (· + ·) 0
theorem Tug (fr to_:Int)(u v:List Int):∀(l:List At) (b k:Int),(∀ a∈l,a.vis fr u=true∧a.vis to_ v=true)→bwAll fr to_ u v l ([⟨b,k,⟨#[]⟩⟩],k)= ([⟨b,k+szs l,⟨#[]⟩⟩],k+szs l)
 | [],b,k,h=>by simp[bwAll,szs]
 | a::l,b,k,h=>by
  have ha:=h a (List.mem_cons_self ..)
  have e:bwStep ([⟨b,k,⟨#[]⟩⟩],k) a.txt (a.vis fr u) (a.vis to_ v)= ([⟨b,k+a.txt.size,⟨#[]⟩⟩],k+a.txt.size):=by
   rw[ha.1,ha.2]; simp[bwStep,dCp,cpE]
  rw[Th4,e,Tug fr to_ u v l b _ fun b hb=>h b (List.mem_cons_of_mem _ hb)]
  have:k+a.txt.size+szs l=k+szs (a::l):=by simp[szs]; omega
  rw[this]
theorem Txs (fr to_:Int)(u v:List Int)(a:At)(l:List At)(h:∀ b∈a::l,b.vis fr u=true∧b.vis to_ v=true):bwAll fr to_ u v (a::l) ([],0)= ([⟨0,szs (a::l),⟨#[]⟩⟩],szs (a::l)):=by
 have ha:=h a (List.mem_cons_self ..)
 have e:bwStep ([],0) a.txt (a.vis fr u) (a.vis to_ v)= ([⟨0,(a.txt.size:Int),⟨#[]⟩⟩],(a.txt.size:Int)):=by
  rw[ha.1,ha.2]; simp[bwStep,dCp]
 rw[Th4,e,Tug fr to_ u v l 0 _ fun b hb=>h b (List.mem_cons_of_mem _ hb)]
 have: (a.txt.size:Int)+szs l=szs (a::l):=by simp[szs]
 rw[this]
theorem Tuh (fr to_:Int)(u v:List Int):∀(l:List At) (p:ByteArray) (k:Int),1≤p.size→ (∀ a∈l,a.vis fr u=false∧a.vis to_ v=true)→∃ p',L p'=L p++ (l.map fun a=>a.txt).flatMap L∧bwAll fr to_ u v l ([⟨0,0,p⟩],k)= ([⟨0,0,p'⟩],k)
 | [],p,k,hp,h=> ⟨p,by simp,rfl⟩
 | a::l,p,k,hp,h=>by
  have ha:=h a (List.mem_cons_self ..)
  have hne:¬ p= ⟨#[]⟩:=by intro c; rw[c]at hp; exact absurd hp (by decide)
  have e:bwStep ([⟨0,0,p⟩],k) a.txt (a.vis fr u) (a.vis to_ v)= ([⟨0,0,p++a.txt⟩],k):=by
   rw[ha.1,ha.2]; simp[bwStep,dPt,cpE,hne]
  obtain⟨p',h1,h2⟩:=Tuh fr to_ u v l (p++a.txt) k (by rw[ByteArray.size_append]; omega) fun b hb=>h b (List.mem_cons_of_mem _ hb)
  refine⟨p',?_,by rw[Th4,e,h2]⟩
  rw[h1]
  simp[Tor]
end Go.Proofs.YtjpibniecllafaaGreat.AM
end
section
namespace Go.Proofs.YtjpibniecllafaaGreat.AM
open Go Go.Proofs.YtjpibniecllafaaGreat.U
variable {cp:List PV→Option Ret}
def isL (base:Int):List Ch→Int→Int→Option Bool→Bool
 | [],_,_,_=>true
 | x::l,size,to,p=>elemF x base to p.isSome (p.getD false)&& (decide (size+ (x.t-x.f+x.s.size)≤20000)&&isL base l (size+ (x.t-x.f+x.s.size)) (if cpE x=true then x.t else to) (some (cpE x)))
def isD (base:Int)(l:List Ch):Bool:=decide (0≤base)&&decide (base≤20000)&&decide (l.length≤60)&&isL base l 0 0 none
def prv (l:List Ch)(i:Nat):Option Bool:=if i=0 then none else(l[i-1]?).map cpE
theorem Tpi {x:Ch}{base to:Int}{a c:Bool}(h:elemF x base to a c=true)(h0:0≤to)(hb:base≤20000):0≤x.f∧x.f≤x.t∧x.t≤20000∧x.s.size≤20000:=by
 unfold elemF at h
 split at h
 · rename_i hc
   simp only[Bool.and_eq_true,decide_eq_true_eq]at h
   have:x.s.size=0:=by
    unfold cpE at hc
    rw[decide_eq_true_eq]at hc
    rw[hc]; rfl
   omega
 · simp only[Bool.and_eq_true,decide_eq_true_eq]at h
   omega
def dS (base:Int)(R:List (List PV))(n:Nat)(size to:Int)(i:Nat):St:= ⟨[(1,.mp 1 0 0),(3,.p (pi size)),(4,.p (pi to)),(23,.p (.sl 3 R)),(24,.p (pi n)),(25,.p (pi i))],[(1,.row 131 2 false [[pi base,.sl 3 R]])]⟩
def dX:St:= ⟨[(2,.p (pb false))],[]⟩
theorem Teg (base:Int)(hb:base≤20000):∀(l:List Ch) (size to:Int) (p:Option Bool),isL base l size to p=true→0≤to→∀ x∈l,0≤x.f∧x.f≤x.t∧x.t≤20000∧x.s.size≤20000
 | [],_,_,_,_,_,x,hx=>by simp at hx
 | y::l,size,to,p,h,h0,x,hx=>by
  rw[isL,Bool.and_eq_true,Bool.and_eq_true]at h
  have hy:=Tpi h.1 h0 hb
  rcases List.mem_cons.1 hx with rfl | hx
  · exact hy
  · exact Teg base hb l _ _ _ h.2.2 (by split<;> omega) x hx
theorem Tdh {base:Int}{l:List Ch}(h:isD base l=true):0≤base∧base≤20000∧l.length≤60∧isL base l 0 0 none=true:=by
 unfold isD at h
 simp only[Bool.and_eq_true,decide_eq_true_eq]at h
 exact⟨h.1.1.1,h.1.1.2,h.1.2,h.2⟩
def mvL (at_:Int):List Ch→Int→Int→Int×Int
 | [],n,w=> (n,w)
 | x::l,n,w=>if cpE x=true then(if at_≤x.f then(n,w)else if at_<x.t then(n+ (w+min x.t at_-x.f),0)else mvL at_ l (n+ (w+min x.t at_-x.f)) 0)else mvL at_ l n (w+x.s.size)
def moveF (base:Int)(l:List Ch)(at_:Int)(after:Bool):Int :=
 let q:=mvL (min (max at_ 0) base) l 0 0
 if after=true then q.1+q.2 else q.1
def mvR:ACode:=tailN 6 A_offset_Move.body
theorem T24:mvR= (.seq (.seq (.reg [Mv 56 2] [7,8,56]) (.ite (t 56) (.reg [Mv 57 7,Mv 58 8,Bt 59 .add 57 58,Mv 7 59] [7]) .skip)) (.seq (.reg [Mv 60 7,Mv 6 60] [6]) .ret)):=rfl
theorem Tnk (af:Bool)(n w:Int)(hn: -1000000000≤n∧n≤1000000000)(hw:0≤w∧w≤1000000000)(s:St)(h2:get s.t 2=some (.p (pb af)))(h7:get s.t 7=some (.p (pi n)))(h8:get s.t 8=some (.p (pi w)))
 (hk:norm [7,8,56] ⟨put s.t 56 (.p (pb af)),s.h⟩= ⟨[(7,.p (pi n)),(8,.p (pi w)),(56,.p (pb af))],[]⟩):runC A_offset_Move (Code (EX cp) mvR s)=some (.val (pi (if af=true then n+w else n))):=by
 have hfin:∀ q,runC A_offset_Move q=runC ⟨3,61,[.t 6],.skip⟩ q:=fun q=>by
  cases q with
  | none=>rfl
  | some q=>obtain⟨a,b⟩:=q; cases a<;> rfl
 rw[hfin,T24,k_seq,k_seq,k_reg]
 have e:AM.steps (Run (EX cp)) [Mv 56 2] s=some ⟨put s.t 56 (.p (pb af)),s.h⟩:=by
  simp[h2]
 rw[e,Ts1,hk]
 cases af<;> simp(disch:=omega)[Tac]
set_option maxHeartbeats 8000000 in
theorem Tnl (l:List Ch)(hl:l.length≤60)(hs:∀ x∈l,0≤x.f∧x.f≤x.t∧x.t≤20000∧x.s.size≤20000)(at_:Int)(h0:0≤at_)(h1:at_≤20000)(af:Bool):∀(m i:Nat) (n w:Int),m+i=l.length→ -2000000*i≤n→n≤2000000*i→0≤w→w≤20000*i →
 ∃ s,Code (EX cp) L_offset_Move_0 ⟨[(1,.p (pi at_)),(2,.p (pb af)),(7,.p (pi n)),(8,.p (pi w)),(20,.p (.sl 3 (chs l))),(21,.p (pi l.length)),(22,.p (pi i))],[]⟩=some (.ex 0,s) ∧
  runC A_offset_Move (Code (EX cp) mvR s)=some (.val (pi (if af=true then(mvL at_ (l.drop i) n w).1+ (mvL at_ (l.drop i) n w).2 else(mvL at_ (l.drop i) n w).1)))
 | 0,i,n,w,hm,_,_,_,_=>by
  obtain rfl:i=l.length:=by omega
  rw[List.drop_length,mvL]
  refine⟨⟨[(1,.p (pi at_)),(2,.p (pb af)),(7,.p (pi n)),(8,.p (pi w)),(20,.p (.sl 3 (chs l))),(21,.p (pi l.length)),(22,.p (pi l.length)),(23,.p (pb false))],[]⟩,?_,Tnk af n w (by omega) (by omega) _ rfl rfl rfl (by simp)⟩
  rw[L_offset_Move_0,Tae]
  generalize chs l=R at *
  generalize l.length=z at *
  simp(disch:=omega)[Tab,-getElem?_pos]
 | m + 1,i,n,w,hm,q1,q2,q3,q4=>by
  have hi:i<l.length:=by omega
  have hc:=Tdg l i hi
  obtain⟨b1,b2,b3,b4⟩:=hs _ (List.getElem_mem hi)
  have e2:=runIsCopy (cp:=cp) l[i]
  rw[List.drop_eq_getElem_cons hi,mvL]
  have ihA:=Tnl l hl hs at_ h0 h1 af m (i+1) n (w+l[i].s.size) (by omega) (by omega) (by omega) (by omega) (by omega)
  have ihB:=Tnl l hl hs at_ h0 h1 af m (i+1) (n+ (w+min l[i].t at_-l[i].f)) 0 (by omega) (by omega) (by omega) (by omega) (by omega)
  rw[show((i+1:Nat):Int)= (i:Int)+1 by omega]at ihA ihB
  rw[L_offset_Move_0,Tae]
  rw[L_offset_Move_0]at ihA ihB
  have hl2:=Tb3 l
  have hmin: (if at_<l[i].t then at_ else l[i].t)=min l[i].t at_:=by omega
  have hm1:min l[i].t at_≤20000∧0≤min l[i].t at_:=by omega
  have hww:IntKind.wrap .i64 (n+ (w+min l[i].t at_-l[i].f))=n+ (w+min l[i].t at_-l[i].f):=Tac _ (by omega) (by omega)
  have hw2:IntKind.wrap .i64 (w+min l[i].t at_-l[i].f)=w+min l[i].t at_-l[i].f:=Tac _ (by omega) (by omega)
  have hw3:IntKind.wrap .i64 (w+min l[i].t at_)=w+min l[i].t at_:=Tac _ (by omega) (by omega)
  have hres:=Tnk (cp:=cp) af (n+ (w+min l[i].t at_-l[i].f)) 0 (by omega) (by omega)
  generalize l[i]=x at *
  generalize chs l=R at *
  generalize mvL at_ (l.drop (i+1)) n (w+x.s.size)=rA at *
  generalize mvL at_ (l.drop (i+1)) (n+ (w+min x.t at_-x.f)) 0=rB at *
  generalize l.length=z at *
  simp only[Ch.pv]at e2 hc
  cases hcp:cpE x with
  | false =>
   rw[hcp]at e2
   obtain⟨s,a1,a2⟩:=ihA
   refine⟨s,?_,a2⟩
   rw[← a1]
   simp(disch:=omega)[hc,e2,hi,Taa,Tab,Tac,-getElem?_pos]
  | true =>
   rw[hcp]at e2
   simp only[if_true]
   by_cases c1:at_≤x.f
   · rw[if_pos c1]
     refine⟨⟨[(1,.p (pi at_)),(2,.p (pb af)),(7,.p (pi n)),(8,.p (pi w)),(10,.mp 10 0 0),(20,.p (.sl 3 R)),(21,.p (pi z)),(22,.p (pi i)),(50,.p (pb true))],[(10,.row 225 3 false [[pi x.f,pi x.t,.sc (.string x.s)]])]⟩,?_,Tnk af n w (by omega) (by omega) _ rfl rfl rfl (by simp)⟩
     simp(disch:=omega)[hc,e2,hi,c1,Taa,Tab,Tac,-getElem?_pos]
   · rw[if_neg c1]
     by_cases c2:at_<x.t
     · rw[if_pos c2]
       refine⟨⟨[(1,.p (pi at_)),(2,.p (pb af)),(7,.p (pi (n+ (w+min x.t at_-x.f)))),(8,.p (pi 0)),(20,.p (.sl 3 R)),(21,.p (pi z)),(22,.p (pi i)),(40,.p (pb true))],[]⟩,?_,hres _ rfl rfl rfl (by simp)⟩
       have hmin': (if at_<x.t then at_ else x.t)=min x.t at_:=hmin
       simp(disch:=omega)[hc,e2,hi,c1,hmin',hww,hw2,hw3,Taa,Tab,Tac,-getElem?_pos]
     · rw[if_neg c2]
       obtain⟨s,a1,a2⟩:=ihB
       refine⟨s,?_,a2⟩
       rw[← a1]
       simp(disch:=omega)[hc,e2,hi,c1,hmin,hww,hw2,hw3,Taa,Tab,Tac,-getElem?_pos]
end Go.Proofs.YtjpibniecllafaaGreat.AM
end
section
namespace Go.Proofs.YtjpibniecllafaaGreat.AM
open Go Go.Proofs.YtjpibniecllafaaGreat.U
theorem Tnm (b:Int)(h0:0≤b)(h1:b≤20000):isD b []=true:=by simp[isD,isL,h0,h1]
theorem T25 (b p:Int)(h0:0<p)(h1:p≤b)(h2:b≤20000):isD b [⟨0,p,⟨#[]⟩⟩]=true:=by
 have e0: (0:Int)≤b:=by omega
 have e1:p≤20000:=by omega
 have e2: (⟨#[]⟩:ByteArray).size=0:=rfl
 simp[isD,isL,elemF,cpE,e0,h0,h1,h2,e1,e2]
theorem Tys (b:Int)(s:ByteArray)(h0:0≤b)(h1:b≤20000)(hs:1≤s.size)(hs2:s.size≤20000)(hv:valid (L s)=true):isD b [⟨0,0,s⟩]=true:=by
 have hne:¬ s= ⟨#[]⟩:=by intro c; rw[c]at hs; exact absurd hs (by decide)
 have e1: (s.size:Int)≤20000:=by omega
 simp[isD,isL,elemF,cpE,h0,h1,hne,hs2,hv,e1]
theorem Tui (b a:Int)(h0:0≤b):moveF b [] a true=0:=by simp[moveF,mvL]
theorem mv_cp (b p a:Int)(h0:0<p)(h1:p≤a)(h2:a≤b):moveF b [⟨0,p,⟨#[]⟩⟩] a true=p:=by
 have e:min (max a 0) b=a:=by omega
 have e1:¬ a≤0:=by omega
 have e2:¬ a<p:=by omega
 have e3:min p a=p:=by omega
 simp[moveF,mvL,cpE,e,e1,e2,e3]
theorem mv_pt (b a:Int)(s:ByteArray)(h0:0≤b)(hs:1≤s.size):moveF b [⟨0,0,s⟩] a true=s.size:=by
 have hne:¬ s= ⟨#[]⟩:=by intro c; rw[c]at hs; exact absurd hs (by decide)
 simp[moveF,mvL,cpE,hne]
def Era (A:List At)(i:Nat)(l:List At):Prop:=∃ Q,l=A.take (A.length-i)++Q∧Q.map (fun a=>a.txt)= (A.drop (A.length-i)).map (fun a=>a.txt)∧∀ a∈Q,a.rv=1∧a.gr=1∧∃ c:Int,a.cuts= [(c,2)]∧2≤c∧c≤i+1
theorem Era.zero (A:List At):Era A 0 A:= ⟨[],by simp,by simp,by simp⟩
theorem Era.step {A l:List At}{i:Nat}(hA:∀ a∈A,a.rv=1∧a.gr=1∧a.cuts= [])(h:Era A i l)(hi:i<A.length):∃ P a Q,P=A.take (A.length-i-1)∧a=A[A.length-i-1]∧l=P++a::Q∧A.take (A.length-i)=P++ [a]∧ (∀ b∈Q,b.rv=1∧b.gr=1∧∃ c:Int,b.cuts= [(c,2)]∧2≤c∧c≤i+1)∧Era A (i+1) (P++cutAt a (i+2) 2::Q):=by
 obtain⟨Q,h1,h2,h3⟩:=h
 have hk:A.length-i-1<A.length:=by omega
 have e1:A.length-i=A.length-i-1+1:=by omega
 have et:A.take (A.length-i)=A.take (A.length-i-1)++ [A[A.length-i-1]]:=by
  conv=>lhs; rw[e1]
  rw[List.take_add_one,List.getElem?_eq_getElem hk]; rfl
 have ha:=hA _ (List.getElem_mem hk)
 refine⟨_,_,Q,rfl,rfl,?_,et,h3,cutAt A[A.length-i-1] (i+2) 2::Q,?_,?_,?_⟩
 · rw[h1,et,List.append_assoc,List.singleton_append]
 · rw[show A.length- (i+1)=A.length-i-1 by omega]
 · rw[show A.length- (i+1)=A.length-i-1 by omega,List.drop_eq_getElem_cons hk,List.map_cons,List.map_cons,h2,← e1]; rfl
 · intro b hb
   rcases List.mem_cons.1 hb with rfl | hb
   · refine⟨ha.1,ha.2.1,(i+2:Int),?_,by omega,by omega⟩
     show A[A.length-i-1].cuts++ [((i:Int)+2,2)]=_
     rw[ha.2.2]; rfl
   · obtain⟨q1,q2,c,q3,q4,q5⟩:=h3 b hb
     exact⟨q1,q2,c,q3,q4,by omega⟩
theorem Tfi {a:At}(h:a.rv=1∧a.gr=1∧a.cuts= [])(r:Int)(hr:1≤r)(u:List Int)(hu:holdsF 1 u=true):a.vis r u=true:=by
 unfold At.vis
 rw[h.1,h.2.1,h.2.2,hu]
 simp[hr]
theorem Tdi {a:At}{c:Int}(h:a.rv=1∧a.gr=1∧a.cuts= [(c,2)])(r:Int)(hr:c≤r):a.vis r []=false:=by
 unfold At.vis
 have e:holdsF 2 []=true:=by decide
 rw[h.1,h.2.1,h.2.2]
 simp[hr,e]
theorem Th5 {a:At}{c:Int}(h:a.rv=1∧a.gr=1∧a.cuts= [(c,2)])(r:Int)(hr:1≤r):a.vis r [2]=true:=by
 unfold At.vis
 have e:holdsF 2 [2]=false:=by decide
 have e1:holdsF 1 [2]=true:=by decide
 rw[h.1,h.2.1,h.2.2,e1]
 simp[hr,e]
theorem Tet (rev:Int)(u:List Int):∀ l:List At,(∀ a∈l,a.vis rev u=false)→txtF rev u l= []
 | [],h=>rfl
 | a::l,h=>by
  rw[txtF,h a (List.mem_cons_self ..),Tet rev u l fun b hb=>h b (List.mem_cons_of_mem _ hb)]
  simp
theorem Tl1 (rev:Int)(u:List Int)(P Q:List At)(hp:∀ a∈P,a.vis rev u=true)(hq:∀ a∈Q,a.vis rev u=false):txtF rev u (P++Q)=tl P:=by
 rw[Thr,Typ rev u P hp,Tet rev u Q hq,List.append_nil]
theorem Td5:∀ l:List At,(tl l).length=szN l
 | []=>rfl
 | a::l=>by
  have:=Td5 l
  unfold tl at this ⊢
  unfold szN at this ⊢
  rw[List.map_cons,List.flatMap_cons,List.length_append,this,List.map_cons,List.sum_cons,L_len]
abbrev C4:=Int×Int×Int×Int
def cu (v:Int):Int:=if 65536≤v then 2 else 1
def cl (v:Int):Int:=if v=10 then 1 else 0
def one4 (v:Int):C4:= (((enc v).length:Int),1,cu v,cl v)
def add4 (a b:C4):C4:= (a.1+b.1,a.2.1+b.2.1,a.2.2.1+b.2.2.1,a.2.2.2+b.2.2.2)
def cnt:List Int→C4
 | []=> (0,0,0,0)
 | v::l=>add4 (one4 v) (cnt l)
def C4.cells (c:C4):List PV:= [pi c.1,pi c.2.1,pi c.2.2.1,pi c.2.2.2]
theorem Tl2 (a:C4):add4 a (0,0,0,0)=a:=by simp[add4]
theorem Tl3 (a:C4):add4 (0,0,0,0) a=a:=by simp[add4]
theorem Tjd (a b c:C4):add4 (add4 a b) c=add4 a (add4 b c):=by
 simp only[add4,Prod.mk.injEq]; omega
theorem Tq8 (a b:List Int):cnt (a++b)=add4 (cnt a) (cnt b):=by
 induction a with
 | nil=>rw[List.nil_append,cnt,Tl3]
 | cons v a ih=>rw[List.cons_append,cnt,ih,cnt,Tjd]
theorem Txt (a:List Int)(v:Int):cnt (a++ [v])=add4 (cnt a) (one4 v):=by rw[Tq8,cnt,cnt,Tl2]
theorem Tpj (v:Int):1≤cu v∧cu v≤2:=by unfold cu; split<;> omega
theorem Tpk (v:Int):0≤cl v∧cl v≤1:=by unfold cl; split<;> omega
theorem Tl4 (l:List Int):0≤ (cnt l).1∧ (cnt l).1≤4*l.length∧ (cnt l).2.1=l.length∧0≤ (cnt l).2.2.1∧ (cnt l).2.2.1≤2*l.length∧0≤ (cnt l).2.2.2∧ (cnt l).2.2.2≤l.length:=by
 induction l with
 | nil=>simp[cnt]
 | cons v l ih =>
  have a:=Tb7 v
  have b:=Tpj v
  have c:=Tpk v
  simp only[cnt,add4,one4,List.length_cons]
  omega
def cntS (s:ByteArray):C4:=cnt (points (L s))
def cntP:List ByteArray→C4
 | []=> (0,0,0,0)
 | x::l=>add4 (cntS x) (cntP l)
theorem Th6 (a b:List ByteArray):cntP (a++b)=add4 (cntP a) (cntP b):=by
 induction a with
 | nil=>rw[List.nil_append,cntP,Tl3]
 | cons v a ih=>rw[List.cons_append,cntP,ih,cntP,Tjd]
def flat (l:List ByteArray):List UInt8:=l.flatMap L
theorem Th7 (a b:List ByteArray):flat (a++b)=flat a++flat b:=by simp[flat]
theorem Tbn (x:ByteArray)(l:List ByteArray):flat (x::l)=L x++flat l:=rfl
theorem Tje (s:ByteArray):0≤ (cntS s).1∧ (cntS s).1≤4*s.size∧0≤ (cntS s).2.1∧ (cntS s).2.1≤s.size∧0≤ (cntS s).2.2.1∧ (cntS s).2.2.1≤2*s.size∧0≤ (cntS s).2.2.2∧ (cntS s).2.2.2≤s.size:=by
 have h:=Tl4 (points (L s))
 have h2:=Tdc (L s)
 rw[L_len]at h2
 unfold cntS
 omega
theorem Tq9 (l:List ByteArray):0≤ (cntP l).1∧ (cntP l).1≤4* (flat l).length∧0≤ (cntP l).2.1∧ (cntP l).2.1≤ (flat l).length∧0≤ (cntP l).2.2.1∧ (cntP l).2.2.1≤2* (flat l).length∧0≤ (cntP l).2.2.2∧ (cntP l).2.2.2≤ (flat l).length:=by
 induction l with
 | nil=>simp[cntP,flat]
 | cons x l ih =>
  have h:=Tje x
  rw[Tbn,List.length_append,L_len]
  simp only[cntP,add4]
  omega
theorem Tra (l:List ByteArray)(h:∀ x∈l,valid (L x)=true):valid (flat l)=true:=by
 induction l with
 | nil=>exact Ta3
 | cons x l ih =>
  rw[Tbn,Td2 (h x (by simp))]
  exact ih fun y hy=>h y (by simp[hy])
theorem Teu {a:UInt8}{t:List UInt8}(h:valid (a::t)=true):¬ cont a:=by
 intro hc
 rw[Tcg (Tj5 hc t)]at h; simp at h
theorem four (l:List UInt8):∀ i,i+4≤l.length→valid l=true→∃ j,j≤3∧∀ b,l[i+j]?=some b→¬ cont b:=by
 induction l using along with
 | h0=>intro i h _; simp at h
 | h1 a t h0 _=>intro i _ hv; rw[Tcg h0]at hv; simp at hv
 | h2 v r hv ih =>
  intro i hi hval
  rw[Tbr hv]at hval
  obtain⟨a,t,he,ha,ht⟩:=Tfc v hv
  have hl:=Tb7 v
  rw[List.length_append]at hi
  by_cases c0:i=0
  · subst c0
    refine⟨0,by omega,fun b hb=> ?_⟩
    rw[he]at hb
    simp only[List.cons_append,Nat.add_zero,List.getElem?_cons_zero,oIE]at hb
    rw[← hb]; exact ha
  · by_cases c1:i< (enc v).length
    · refine⟨(enc v).length-i,by omega,fun b hb=> ?_⟩
      rw[show i+ ((enc v).length-i)= (enc v).length by omega,List.getElem?_append_right (Nat.le_refl _),Nat.sub_self]at hb
      cases r with
      | nil=>simp at hb
      | cons c r =>
       simp only[List.getElem?_cons_zero,oIE]at hb
       rw[← hb]; exact Teu hval
    · obtain⟨j,h1,h2⟩:=ih (i- (enc v).length) (by omega) hval
      refine⟨j,h1,fun b hb=>h2 b ?_⟩
      rw[List.getElem?_append_right (by omega)]at hb
      rw[← hb]; congr 1; omega
theorem Tuj (l:List UInt8):∀ i,i≤l.length→ (∀ b,l[i]?=some b→¬ cont b)→valid l=true→valid (l.take i)=true∧valid (l.drop i)=true:=by
 induction l using along with
 | h0=>intro i h _ _; simp[Ta3]
 | h1 a t h0 _=>intro i _ _ hv; rw[Tcg h0]at hv; simp at hv
 | h2 v r hv ih =>
  intro i hi hb hval
  rw[Tbr hv]at hval
  obtain⟨a,t,he,ha,ht⟩:=Tfc v hv
  by_cases c0:i=0
  · subst c0
    rw[List.take_zero,List.drop_zero,Tbr hv]
    exact⟨Ta3,hval⟩
  · by_cases c1:i< (enc v).length
    · exfalso
      have h1:i< (enc v++r).length:=by rw[List.length_append]; omega
      have h2:=hb _ (List.getElem?_eq_getElem h1)
      rw[List.getElem_append_left c1]at h2
      have h3: (enc v)[i]∈t:=by
       have: (enc v)[i]?=some (enc v)[i]:=List.getElem?_eq_getElem c1
       obtain⟨k,rfl⟩:∃ k,i=k+1:= ⟨i-1,by omega⟩
       have e:=congrArg (·[k+1]?) he
       simp only[List.getElem?_cons_succ]at e
       rw[e]at this
       exact List.mem_of_getElem? this
      exact h2 (ht _ h3)
    · rw[List.length_append]at hi
      obtain⟨p,q⟩:=ih (i- (enc v).length) (by omega) (fun b hb2=>hb b (by
       rw[List.getElem?_append_right (by omega)]; exact hb2)) hval
      rw[List.take_append,List.drop_append,List.take_of_length_le (by omega),List.drop_eq_nil_of_le (by omega),List.nil_append,Tbr hv]
      exact⟨p,q⟩
def Adj:List ByteArray→Prop
 | x::y::l=>64<x.size+y.size∧Adj (y::l)
 | _=>True
structure okP (l:List ByteArray):Prop where
 val:∀ x∈l,valid (L x)=true∧1≤x.size∧x.size≤64
 adj:Adj l
theorem Tuk:okP []:= ⟨by simp,trivial⟩
theorem T1l (x:ByteArray)(h:valid (L x)=true)(h1:1≤x.size)(h2:x.size≤64):okP [x]:= ⟨by simpa using⟨h,h1,h2⟩,trivial⟩
theorem Adj.tail:∀ {x:ByteArray} {l:List ByteArray},Adj (x::l)→Adj l
 | _,[],_=>trivial
 | _,_::_,h=>h.2
theorem Adj.drop:∀(i:Nat) {l:List ByteArray},Adj l→Adj (l.drop i)
 | 0,_,h=>h
 | _+1,[],_=>trivial
 | i+1,_::_,h=>Adj.drop i h.tail
theorem Adj.take:∀(i:Nat) {l:List ByteArray},Adj l→Adj (l.take i)
 | 0,_,_=>trivial
 | _+1,[],_=>trivial
 | _+1,[x],_=>by rw[List.take_succ_cons,List.take_nil]; trivial
 | 1,_::_::_,_=>trivial
 | i+2,x::y::l,h=>by
  have:=Adj.take (i+1) h.2
  rw[List.take_succ_cons]at this ⊢
  rw[List.take_succ_cons]
  exact⟨h.1,this⟩
theorem Adj.append:∀ {a b:List ByteArray},Adj a→Adj b→ (∀ x∈a.getLast?,∀ y∈b.head?,64<x.size+y.size)→Adj (a++b)
 | [],_,_,hb,_=>hb
 | [x],[],_,_,_=>trivial
 | [x],y::l,_,hb,h=> ⟨h x (by simp) y (by simp),hb⟩
 | x::y::l,b,ha,hb,h=> ⟨ha.1,Adj.append ha.2 hb (fun z hz w hw=>h z (by rw[List.getLast?_cons_cons]; exact hz) w hw)⟩
theorem okP.drop {l:List ByteArray}(h:okP l)(i:Nat):okP (l.drop i):= ⟨fun x hx=>h.val x (List.mem_of_mem_drop hx),h.adj.drop i⟩
theorem okP.take {l:List ByteArray}(h:okP l)(i:Nat):okP (l.take i):= ⟨fun x hx=>h.val x (List.mem_of_mem_take hx),h.adj.take i⟩
theorem okP.append {a b:List ByteArray}(ha:okP a)(hb:okP b)(h:∀ x∈a.getLast?,∀ y∈b.head?,64<x.size+y.size):okP (a++b) :=
 ⟨fun x hx=>by
  rcases List.mem_append.1 hx with hx | hx
  · exact ha.val x hx
  · exact hb.val x hx,ha.adj.append hb.adj h⟩
theorem okP.count:∀(n:Nat) (l:List ByteArray),l.length≤n→okP l→l.length*65≤2* (flat l).length+65
 | _,[],_,_=>by simp
 | _,[x],_,h=>by simp
 | 0,x::y::l,hn,_=>by simp at hn
 | n+1,x::y::l,hn,h=>by
  have ih:=okP.count n l (by simp at hn; omega) (by have:=h.drop 2; simpa using this)
  have h1:=h.adj.1
  rw[Tbn,Tbn]
  simp only[List.length_append,L_len,List.length_cons]
  omega
theorem okP.len {l:List ByteArray}(h:okP l):l.length≤ (flat l).length:=by
 have:∀ l:List ByteArray,(∀ x∈l,1≤x.size)→l.length≤ (flat l).length:=by
  intro l
  induction l with
  | nil=>intro _; simp
  | cons x l ih =>
   intro h
   have h1:=h x (by simp)
   have h2:=ih fun y hy=>h y (by simp[hy])
   rw[Tbn,List.length_append,List.length_cons,L_len]; omega
 exact this l fun x hx=> (h.val x hx).2.1
def backN (s:List UInt8):Nat→Nat
 | 0=>0
 | n+1=>match s[n+1]? with
  | some b=>if cont b then backN s n else n+1
  | none=>n+1
theorem Tpl (s:List UInt8):∀ n,backN s n≤n
 | 0=>Nat.le_refl _
 | n+1=>by
  rw[backN]
  split
  · split
    · have:=Tpl s n; omega
    · exact Nat.le_refl _
  · exact Nat.le_refl _
theorem Tpm (s:List UInt8)(hv:valid s=true):∀ n,∀ b,s[backN s n]?=some b→¬ cont b
 | 0=>fun b hb=>by
  rw[backN]at hb
  cases s with
  | nil=>simp at hb
  | cons a t =>
   simp only[List.getElem?_cons_zero,oIE]at hb
   rw[← hb]; exact Teu hv
 | n+1=>fun b hb=>by
  have ih:=Tpm s hv n
  rw[backN]at hb
  split at hb
  · rename_i c hc
    split at hb
    · exact ih b hb
    · rw[hc]at hb; obtain rfl:=oIj hb; assumption
  · rename_i hc; rw[hc]at hb; simp at hb
theorem Txu (s:List UInt8)(hv:valid s=true)(n:Nat)(h3:3≤n)(hn:n<s.length):n-3≤backN s n:=by
 obtain⟨j,h1,h2⟩:=four s (n-3) (by omega) hv
 have key:∀ m,n-3+j≤m→m<s.length→n-3+j≤backN s m:=by
  intro m
  induction m with
  | zero=>intro h _; omega
  | succ m ih =>
   intro h hm
   rw[backN,List.getElem?_eq_getElem hm]
   dsimp only
   split
   · rename_i hc
     by_cases c:n-3+j=m+1
     · exact absurd hc (h2 _ (by rw[c]; exact List.getElem?_eq_getElem hm))
     · exact ih (by omega) (by omega)
   · omega
 have:=key n (by omega) hn
 omega
end Go.Proofs.YtjpibniecllafaaGreat.AM
end
section
namespace Go.Proofs.YtjpibniecllafaaGreat.AM
open Go Go.Proofs.YtjpibniecllafaaGreat.U
variable {cp:List PV→Option Ret}
theorem T26 (s:ByteArray)(i:Nat)(h:i<s.size)(hv:valid ((L s).drop i)=true):sizeAt s i≠0∧sc (decAt s i).2∧points ((L s).drop i)= (decAt s i).2::points ((L s).drop (i+sizeAt s i))∧valid ((L s).drop (i+sizeAt s i))=true:=by
 rw[Tfe s i h]at hv
 by_cases c:sizeAt s i=0
 · rw[if_pos c]at hv; simp at hv
 · rw[if_neg c]at hv
   refine⟨c,?_,?_,hv⟩
   · rw[Tba]; unfold sizeAt at c; rw[Tba]at c; exact Ts0 _ c
   · rw[Tff s i h,if_neg c]
def C4.pv (c:C4):PV:= .st [pi c.1,pi c.2.1,pi c.2.2.1,pi c.2.2.2]
def C4.sm (c:C4):Prop:= (0≤c.1∧c.1≤2199023255552)∧ (0≤c.2.1∧c.2.1≤2199023255552)∧ (0≤c.2.2.1∧c.2.2.1≤2199023255552)∧ (0≤c.2.2.2∧c.2.2.2≤2199023255552)
theorem countUnits (v:Int):Run (EX cp) 282 [pI .i32 v]=some (.val (pi (cu v))):=by
 rw[Tah _ A_count_units _ rfl rfl rfl]
 unfold cu
 by_cases c:65536≤v
 · rw[if_pos c]
   simp(disch:=omega)[A_count_units,Taa,Tab]
 · rw[if_neg c]
   simp(disch:=omega)[A_count_units,Taa,Tab]
theorem countOf1 (v:Int)(h:sc v):Run (EX cp) 281 [pI .i32 v]=some (.val (one4 v).pv):=by
 have h1:=countUnits (cp:=cp) v
 have h2:=Ti6 v h
 have h3: (chS v).size= (enc v).length:=Teq _
 rw[Tah _ A_count_of _ rfl rfl rfl]
 unfold C4.pv one4 cl
 by_cases c:v=10
 · rw[if_pos c]
   simp(disch:=omega)[A_count_of,h1,h2,h3,c,Taa,Tab]
   subst c
   simp[h1,h2,h3]
 · rw[if_neg c]
   simp(disch:=omega)[A_count_of,h1,h2,h3,c,Taa,Tab]
theorem countPlus (a b:C4)(ha:a.sm)(hb:b.sm):Run (EX cp) 280 [a.pv,b.pv]=some (.val (add4 a b).pv):=by
 obtain⟨a1,a2,a3,a4⟩:=ha
 obtain⟨b1,b2,b3,b4⟩:=hb
 rw[Tah _ A_count_Plus _ rfl rfl rfl]
 unfold C4.pv add4
 simp(disch:=omega)[A_count_Plus,Tac]
theorem ropePlus (a b:C4)(ha:a.sm)(hb:b.sm):Run (EX cp) 283 [a.pv,b.pv]=some (.val (add4 a b).pv):=by
 have h:=countPlus (cp:=cp) a b ha hb
 rw[Tah _ A_rope_counts_Plus _ rfl rfl rfl]
 unfold C4.pv at h ⊢
 simp(disch:=omega)[A_rope_counts_Plus,h]
theorem T1m (v:Int): (one4 v).sm:=by
 have h1:=Tb7 v
 have h2:=Tpj v
 have h3:=Tpk v
 simp only[C4.sm,one4]
 omega
set_option maxHeartbeats 1000000 in
theorem Tl5 (s:ByteArray)(hs:s.size<274877906944):∀(m i:Nat) (us:List Int),s.size≤i+m→i≤s.size→us.length≤i→valid ((L s).drop i)=true →
 ∃ j,Code (EX cp) L_count_Of_0 ⟨[(2,.mp 2 0 0),(3,.mp 3 0 0),(8,.mp 8 0 0)],[(2,.row 317 4 false [[pi 0,pi 0,pi 0,pi 0]]),(3,.row 317 4 false [[pi (cnt us).1,pi (cnt us).2.1,pi (cnt us).2.2.1,pi (cnt us).2.2.2]]),(8,.it s i)]⟩ =
  some (.ex 0,⟨[(2,.mp 2 0 0),(3,.mp 3 0 0),(8,.mp 8 0 0),(9,.p (.tu [pb false])),(10,.p (pb false))],[(2,.row 317 4 false [[pi 0,pi 0,pi 0,pi 0]]),(3,.row 317 4 false [[pi (cnt (us++points ((L s).drop i))).1,pi (cnt (us++points ((L s).drop i))).2.1,pi (cnt (us++points ((L s).drop i))).2.2.1,pi (cnt (us++points ((L s).drop i))).2.2.2]]),(8,.it s j)]⟩):=by
 intro m
 induction m with
 | zero =>
  intro i us h1 h2 h3 h4
  have:i=s.size:=by omega
  subst this
  refine⟨s.size,?_⟩
  rw[Tbf s _ (Nat.le_refl _),Ta0,List.append_nil,L_count_Of_0,Tae]
  simp
 | succ m ih =>
  intro i us h1 h2 h3 h4
  by_cases hlt:i<s.size
  · obtain⟨c,hsc,hn,hv⟩:=T26 s i hlt h4
    have hle:=Tcu s i h2
    have hd:=Ti5 s i (by unfold sizeAt at c; rw[Tba]at c; exact c)
    have e1: (dec ((L s).drop i)).1=sizeAt s i:=by unfold sizeAt; rw[Tba]
    have e2:dec ((L s).drop i)=decAt s i:= (Tba s i).symm
    rw[e1,e2]at hd
    have h0:0≤ (decAt s i).2:=by unfold sc at hsc; omega
    have h0':max (decAt s i).2 0= (decAt s i).2:=by omega
    have hof:=countOf1 (cp:=cp) _ hsc
    rw[hn]
    generalize hz:sizeAt s i=n at *
    generalize(decAt s i).2=v at *
    obtain⟨j,ih'⟩:=ih (i+n) (us++ [v]) (by omega) (by omega) (by simp; omega) hv
    refine⟨j,?_⟩
    have e:us++v::points ((L s).drop (i+n))= (us++ [v])++points ((L s).drop (i+n)):=by simp
    have hr:=Tl4 us
    have hpl:=countPlus (cp:=cp) (cnt us) (one4 v) (by unfold C4.sm; omega) (T1m v)
    rw[← Txt]at hpl
    unfold C4.pv at hof hpl
    rw[e,← ih',L_count_Of_0,Tae]
    generalize cnt (us++ [v])=q2 at *
    generalize cnt us=q1 at *
    generalize one4 v=q3 at *
    simp(disch:=omega)[hlt,hd,h0',hof,hpl]
  · have:i=s.size:=by omega
    subst this
    refine⟨s.size,?_⟩
    rw[Tbf s _ (Nat.le_refl _),Ta0,List.append_nil,L_count_Of_0,Tae]
    simp
theorem countOf (s:ByteArray)(hs:s.size<17179869184):Run (EX cp) 279 [.sc (.string s)]=some (.val (cntS s).pv):=by
 have h1:=utfClean (cp:=cp) s (by omega)
 have e:L (cleanS s)=clean (L s):=L_mk _
 have hcl:=Tgj (L s)
 rw[L_len,← e,L_len]at hcl
 obtain⟨j,h2⟩:=Tl5 (cp:=cp) (cleanS s) (by omega) (cleanS s).size 0 [] (by omega) (by omega) (by simp) (by rw[List.drop_zero,e]; exact Tct _)
 rw[List.nil_append,List.drop_zero,e,show points (clean (L s))=points (L s)from Td1 _ (Tdb _)]at h2
 have e0:cnt []= (0,0,0,0):=rfl
 rw[e0]at h2
 rw[Tah _ A_count_Of _ rfl rfl rfl]
 unfold C4.pv cntS
 generalize cnt (points (L s))=q at *
 simp(disch:=omega)[A_count_Of,h1,h2]
theorem ropeSum1 (s:ByteArray)(hs:s.size<17179869184):Run (EX cp) 278 [.sc (.string s)]=some (.val (cntS s).pv):=by
 have h:=countOf (cp:=cp) s hs
 rw[Tah _ A_rope_piece_Sum _ rfl rfl rfl]
 unfold C4.pv at h ⊢
 simp(disch:=omega)[A_rope_piece_Sum,h]
def ones (l:List PV):List (List PV):=l.map fun x=> [x]
@[simp] theorem Tgq (l:List PV): (ones l).length=l.length:=by simp[ones]
@[simp] theorem Tpn:ones []= []:=rfl
theorem T1n (l:List PV)(n:Nat)(h:n<l.length): (ones l)[n]?=some [l[n]]:=by simp[ones,List.getElem?_eq_getElem h]
theorem Tul (l:List PV)(k:Nat): (ones l).take k=ones (l.take k):=by simp[ones,List.map_take]
theorem Tum (l:List PV)(k:Nat): (ones l).drop k=ones (l.drop k):=by simp[ones,List.map_drop]
theorem Tl6 (l:List PV)(x:PV):ones l++ [[x]]=ones (l++ [x]):=by simp[ones]
theorem Trb (l:List ByteArray)(k:Nat): (strs l).take k=strs (l.take k):=by simp[strs,List.map_take]
theorem Trc (l:List ByteArray)(k:Nat): (strs l).drop k=strs (l.drop k):=by simp[strs,List.map_drop]
def nodeC (ks:List PV)(its:List ByteArray)(n d:Nat)(c:C4):List PV:= [.sl 1 (ones ks),.sl 1 (strs its),pi n,pi d,pi c.1,pi c.2.1,pi c.2.2.1,pi c.2.2.2]
def Nd:Nat→PV→List ByteArray→Prop
 | 0,x,l=>l≠ []∧x= .pt (nodeC [] l l.length 1 (cntP l))
 | d+1,x,l=>∃ q:List (PV×List ByteArray),2≤q.length∧ (∀ p∈q,Nd d p.1 p.2)∧l= (q.map Prod.snd).flatten∧x= .pt (nodeC (q.map Prod.fst) [] l.length (d+2) (cntP l))
def Bd (l:List ByteArray):Prop:= (flat l).length<1073741824∧l.length<1073741824
theorem Bd.left {a b:List ByteArray}(h:Bd (a++b)):Bd a:=by
 obtain⟨h1,h2⟩:=h
 rw[Th7,List.length_append]at h1
 rw[List.length_append]at h2
 exact⟨by omega,by omega⟩
theorem Bd.right {a b:List ByteArray}(h:Bd (a++b)):Bd b:=by
 obtain⟨h1,h2⟩:=h
 rw[Th7,List.length_append]at h1
 rw[List.length_append]at h2
 exact⟨by omega,by omega⟩
theorem Bd.take {l:List ByteArray}(h:Bd l)(k:Nat):Bd (l.take k):=by
 rw[← List.take_append_drop k l]at h; exact h.left
theorem Bd.drop {l:List ByteArray}(h:Bd l)(k:Nat):Bd (l.drop k):=by
 rw[← List.take_append_drop k l]at h; exact h.right
theorem Bd.sm {l:List ByteArray}(h:Bd l): (cntP l).sm:=by
 have h1:=Tq9 l
 have h2:=h.1
 unfold C4.sm; omega
theorem Bd.mem {l:List ByteArray}(h:Bd l){x:ByteArray}(hx:x∈l):x.size<1073741824:=by
 obtain⟨a,b,rfl⟩:=List.append_of_mem hx
 have:=h.right.1
 rw[Tbn,List.length_append,L_len]at this; omega
theorem T1o {x:ByteArray}(h:x.size<1073741824): (cntS x).sm:=by
 have:=Tje x
 unfold C4.sm; omega
theorem Tun (l:List ByteArray)(x:ByteArray):cntP (l++ [x])=add4 (cntP l) (cntS x):=by
 rw[Th6]; congr 1; rw[cntP,cntP,Tl2]
theorem Nd.shape:∀ {d:Nat} {x:PV} {l:List ByteArray},Nd d x l→∃ ks its,x= .pt (nodeC ks its l.length (d+1) (cntP l))
 | 0,x,l,h=> ⟨_,_,h.2⟩
 | d+1,x,l,⟨q,_,_,_,h⟩=> ⟨_,_,h⟩
theorem Nd.deep:∀ {d:Nat} {x:PV} {l:List ByteArray},Nd d x l→d+1≤l.length
 | 0,x,l,h=>by
  have:=h.1
  cases l with
  | nil=>exact absurd rfl this
  | cons a l=>simp
 | d+1,x,l,⟨q,h1,h2,h3,h4⟩=>by
  subst h3
  match q,h1,h2 with
  | a::b::q,_,h2 =>
   have e1:=Nd.deep (h2 a (by simp))
   have e2:=Nd.deep (h2 b (by simp))
   simp only[List.map_cons,List.flatten_cons,List.length_append]; omega
theorem Nd.ne {d:Nat}{x:PV}{l:List ByteArray}(h:Nd d x l):l≠ []:=fun e=>by
 have:=h.deep; rw[e]at this; simp at this
set_option maxHeartbeats 1000000 in
theorem Tuo (l:List ByteArray)(hb:Bd l)(n:Nat)(its:List (List PV)):∀(m i:Nat),m+i=l.length →
 Code (EX cp) L_tree_leaf_rope_piece_rope_counts_0 ⟨[(3,.mp 3 0 0),(11,.p (.sl 1 (strs l))),(12,.p (pi l.length)),(13,.p (pi i))],[(3,.row 245 8 false [[.sl 1 [],.sl 1 its,pi n,pi 1,pi (cntP (l.take i)).1,pi (cntP (l.take i)).2.1,pi (cntP (l.take i)).2.2.1,pi (cntP (l.take i)).2.2.2]])]⟩ =
  some (.ex 0,⟨[(3,.mp 3 0 0),(11,.p (.sl 1 (strs l))),(12,.p (pi l.length)),(13,.p (pi l.length)),(14,.p (pb false))],[(3,.row 245 8 false [[.sl 1 [],.sl 1 its,pi n,pi 1,pi (cntP l).1,pi (cntP l).2.1,pi (cntP l).2.2.1,pi (cntP l).2.2.2]])]⟩):=by
 intro m
 induction m with
 | zero =>
  intro i hi
  have:i=l.length:=by omega
  subst this
  rw[List.take_length,L_tree_leaf_rope_piece_rope_counts_0,Tae]
  simp
 | succ m ih =>
  intro i hi
  have h1:i<l.length:=by omega
  have hg:=Ts9 l i h1
  have ih':=ih (i+1) (by omega)
  have hx:=hb.mem (List.getElem_mem h1)
  have d1:=ropeSum1 (cp:=cp) l[i] (by omega)
  have hsn:=Tun (l.take i) l[i]
  rw[← List.take_succ_eq_append_getElem h1]at hsn
  have d2:=ropePlus (cp:=cp) (cntP (l.take i)) (cntS l[i]) (hb.take i).sm (T1o hx)
  rw[← hsn]at d2
  have hll:=hb.2
  unfold C4.pv at d1 d2
  generalize cntP (l.take (i+1))=c2 at *
  generalize cntP (l.take i)=c1 at *
  generalize l[i]=x at *
  generalize cntS x=c3 at *
  rw[← ih',L_tree_leaf_rope_piece_rope_counts_0,Tae]
  simp(disch:=omega)[h1,hg,d1,d2,Taa,Tab,Tac,Taj,-getElem?_pos]
theorem treeLeaf (l:List ByteArray)(hb:Bd l):Run (EX cp) 210 [.sl 1 (strs l)]=some (.val (.pt (nodeC [] l l.length 1 (cntP l)))):=by
 have h:=Tuo (cp:=cp) l hb l.length (strs l) l.length 0 (by omega)
 rw[List.take_zero,show cntP []= (0,0,0,0)from rfl,show((0:Nat):Int)=0 from rfl]at h
 rw[Tah _ A_tree_leaf_rope_piece_rope_counts _ rfl rfl rfl]
 unfold nodeC
 generalize cntP l=c at *
 simp(disch:=omega)[A_tree_leaf_rope_piece_rope_counts,h]
def its (q:List (PV×List ByteArray)):List ByteArray:= (q.map Prod.snd).flatten
theorem Txv (q:List (PV×List ByteArray))(p:PV×List ByteArray):its (q++ [p])=its q++p.2:=by simp[its]
theorem Tck (q r:List (PV×List ByteArray)):its (q++r)=its q++its r:=by simp[its]
theorem Tfj (p:PV×List ByteArray)(q:List (PV×List ByteArray)):its (p::q)=p.2++its q:=by simp[its]
theorem Tyt (q:List (PV×List ByteArray))(i:Nat)(h:i<q.length): (ones (q.map Prod.fst))[i]?=some [q[i].1]:=by
 rw[T1n _ i (by simpa using h)]; simp
theorem Bd.its {q:List (PV×List ByteArray)}(h:Bd (its q))(i:Nat):Bd (AM.its (q.take i)):=by
 rw[← List.take_append_drop i q,Tck]at h; exact h.left
set_option maxHeartbeats 1000000 in
theorem Trd (q:List (PV×List ByteArray))(hb:Bd (its q))(hql:q.length<1073741824)(d:Nat)(D:Int)(hq:∀ p∈q,Nd d p.1 p.2)(ks:List (List PV)):∀(m i:Nat),m+i=q.length →
 Code (EX cp) L_tree_inner_rope_piece_rope_counts_0 ⟨[(3,.mp 3 0 0),(16,.p (.sl 1 (ones (q.map Prod.fst)))),(17,.p (pi q.length)),(18,.p (pi i))],[(3,.row 245 8 false [[.sl 1 ks,.sl 1 [],pi (its (q.take i)).length,pi D,pi (cntP (its (q.take i))).1,pi (cntP (its (q.take i))).2.1,pi (cntP (its (q.take i))).2.2.1,pi (cntP (its (q.take i))).2.2.2]])]⟩ =
  some (.ex 0,⟨[(3,.mp 3 0 0),(16,.p (.sl 1 (ones (q.map Prod.fst)))),(17,.p (pi q.length)),(18,.p (pi q.length)),(19,.p (pb false))],[(3,.row 245 8 false [[.sl 1 ks,.sl 1 [],pi (its q).length,pi D,pi (cntP (its q)).1,pi (cntP (its q)).2.1,pi (cntP (its q)).2.2.1,pi (cntP (its q)).2.2.2]])]⟩):=by
 intro m
 induction m with
 | zero =>
  intro i hi
  have:i=q.length:=by omega
  subst this
  rw[List.take_length,L_tree_inner_rope_piece_rope_counts_0,Tae]
  simp
 | succ m ih =>
  intro i hi
  have h1:i<q.length:=by omega
  have hg:=Tyt q i h1
  have ih':=ih (i+1) (by omega)
  have hsn:=Txv (q.take i) q[i]
  rw[← List.take_succ_eq_append_getElem h1]at hsn
  have b2:=hb.its (i+1)
  rw[hsn]at b2
  have d2:=ropePlus (cp:=cp) (cntP (its (q.take i))) (cntP q[i].2) (hb.its i).sm b2.right.sm
  rw[← Th6,← hsn]at d2
  have hln: (its (q.take (i+1))).length= (its (q.take i)).length+q[i].2.length:=by rw[hsn,List.length_append]
  have hlb:=b2.2
  rw[List.length_append]at hlb
  obtain⟨k0,i0,hs⟩:= (hq q[i] (List.getElem_mem h1)).shape
  rw[hs]at hg
  unfold nodeC at hg
  unfold C4.pv at d2
  rw[hln]at ih'
  generalize its (q.take (i+1))=t2 at *
  generalize its (q.take i)=t1 at *
  generalize q[i].2=t3 at *
  generalize cntP t2=c2 at *
  generalize cntP t1=c1 at *
  generalize cntP t3=c3 at *
  rw[← ih',L_tree_inner_rope_piece_rope_counts_0,Tae]
  simp(disch:=omega)[h1,hg,d2,Taa,Tab,Tac,Taj,-getElem?_pos]
theorem treeInner (q:List (PV×List ByteArray))(hb:Bd (its q))(d:Nat)(hq:∀ p∈q,Nd d p.1 p.2)(h1:1≤q.length)(hql:q.length<1073741824) :
 Run (EX cp) 212 [.sl 1 (ones (q.map Prod.fst))]=some (.val (.pt (nodeC (q.map Prod.fst) [] (its q).length (d+2) (cntP (its q))))):=by
 have h:=Trd (cp:=cp) q hb hql d ((d:Int)+2) hq (ones (q.map Prod.fst)) q.length 0 (by omega)
 rw[List.take_zero,show its []= []from rfl,show cntP []= (0,0,0,0)from rfl,show((0:Nat):Int)=0 from rfl,show(([]:List ByteArray).length:Int)=0 from rfl]at h
 have hg:=Tyt q 0 (by omega)
 obtain⟨k0,i0,hs⟩:= (hq q[0] (List.getElem_mem (by omega))).shape
 have hdp:= (hq q[0] (List.getElem_mem (by omega))).deep
 have hb0:=hb.its 1
 rw[show q.take 1= [q[0]]from by rw[List.take_one,List.head?_eq_getElem?,List.getElem?_eq_getElem (by omega)]; rfl,Tfj,show its []= []from rfl,List.append_nil]at hb0
 have hb1:=hb0.2
 rw[hs]at hg
 unfold nodeC at hg
 rw[Tah _ A_tree_inner_rope_piece_rope_counts _ rfl rfl rfl]
 unfold nodeC
 have e1:IntKind.wrap .i64 ((d:Int)+1+1)= (d:Int)+2:=by rw[Tac _ (by omega) (by omega)]; omega
 generalize cntP (its q)=c at *
 simp(disch:=omega)[A_tree_inner_rope_piece_rope_counts,hg,e1,h,-getElem?_pos]
def prt (n:Nat):Nat:= (n+15) / 16
def cutAt16 (n i:Nat):Nat:=n*i / prt n
theorem Tkn (n i:Nat):cutAt16 n i≤cutAt16 n (i+1):=Nat.div_le_div_right (Nat.mul_le_mul_left n (Nat.le_succ i))
theorem Tup (n:Nat):cutAt16 n (prt n)=n:=by
 unfold cutAt16
 rcases Nat.eq_zero_or_pos n with h | h
 · subst h; simp
 · exact Nat.mul_div_cancel _ (by unfold prt; omega)
theorem Tpo (n i:Nat)(h:i≤prt n):cutAt16 n i≤n:=by
 have:cutAt16 n i≤cutAt16 n (prt n):=Nat.div_le_div_right (Nat.mul_le_mul_left n h)
 rw[Tup]at this; exact this
theorem Tko (n i m:Nat)(hm:m*prt n≤n)(hp:0<prt n):cutAt16 n i+m≤cutAt16 n (i+1):=by
 unfold cutAt16
 rw[Nat.mul_succ]
 refine(Nat.le_div_iff_mul_le hp).2 ?_
 rw[Nat.add_mul]
 have:=Nat.div_mul_le_self (n*i) (prt n)
 omega
theorem Teh (a b:Nat): ((a:Int)).tdiv (b:Int)= ((a / b:Nat):Int):= (Int.ofNat_tdiv a b).symm
theorem Tpp (n i:Nat)(hn:n<1073741824)(hi:i≤n+1): (n*i:Nat)≤1152921504606846976:=by
 have:n*i≤1073741824*1073741824:=Nat.mul_le_mul (by omega) (by omega)
 omega
def part16 {α:Type}(l:List α)(i:Nat):List α:= (l.drop (cutAt16 l.length i)).take (cutAt16 l.length (i+1)-cutAt16 l.length i)
theorem Tjf {α:Type}(l:List α):∀ k,k≤prt l.length→ ((List.range k).map (part16 l)).flatten=l.take (cutAt16 l.length k)
 | 0,_=>by simp[cutAt16]
 | k+1,h=>by
  rw[List.range_succ,List.map_append,List.flatten_append,Tjf l k (by omega)]
  have e:=List.take_add (l:=l) (i:=cutAt16 l.length k) (j:=cutAt16 l.length (k+1)-cutAt16 l.length k)
  rw[show cutAt16 l.length k+ (cutAt16 l.length (k+1)-cutAt16 l.length k)=cutAt16 l.length (k+1)by have:=Tkn l.length k; omega]at e
  rw[e]; simp[part16]
theorem Tl7 {α:Type}(l:List α): ((List.range (prt l.length)).map (part16 l)).flatten=l:=by
 rw[Tjf l _ (Nat.le_refl _),Tup,List.take_length]
theorem Tfk {α:Type}(l:List α)(i:Nat)(h:i<prt l.length): (part16 l i).length=cutAt16 l.length (i+1)-cutAt16 l.length i:=by
 unfold part16
 have:=Tpo l.length (i+1) h
 rw[List.length_take,List.length_drop]; omega
set_option maxHeartbeats 2000000 in
theorem Th8 (R:List (List PV))(hR:R.length<1073741824)(f:FuncId)(g:Nat→List PV)(hf:∀ i,i<prt R.length→Run (EX cp) f [.sl 1 (part16 R i)]=some (.val (.pt (g i)))):∀(m i:Nat),m+i=prt R.length →
 Code (EX cp) L_tree_spread_rope_piece_tree_node_rope_piece_rope_counts_0 ⟨[(0,.p (.sl 1 R)),(1,.p (.fn f [])),(5,.p (pi (prt R.length))),(6,.ms 6 0 i),(14,.p (pi (prt R.length))),(15,.p (pi i))],[(6,.row 147 1 false (ones ((List.range i).map fun i=>PV.pt (g i))))]⟩ =
  some (.ex 0,⟨[(0,.p (.sl 1 R)),(1,.p (.fn f [])),(5,.p (pi (prt R.length))),(6,.ms 6 0 (prt R.length)),(14,.p (pi (prt R.length))),(15,.p (pi (prt R.length))),(16,.p (pb false))],[(6,.row 147 1 false (ones ((List.range (prt R.length)).map fun i=>PV.pt (g i))))]⟩):=by
 intro m
 induction m with
 | zero =>
  intro i hi
  have:i=prt R.length:=by omega
  subst this
  rw[L_tree_spread_rope_piece_tree_node_rope_piece_rope_counts_0,Tae]
  simp
 | succ m ih =>
  intro i hi
  have h1:i<prt R.length:=by omega
  have ih':=ih (i+1) (by omega)
  have d:=hf i h1
  have hpn:prt R.length≤R.length:=by unfold prt; omega
  have m1:=Tpp R.length i hR (by omega)
  have m2:=Tpp R.length (i+1) hR (by omega)
  have c1:=Tkn R.length i
  have c2:=Tpo R.length (i+1) (by omega)
  have q1:=Teh (R.length*i) (prt R.length)
  have q2:=Teh (R.length* (i+1)) (prt R.length)
  have hp0:¬ ((prt R.length:Nat):Int)=0:=by omega
  have hp0':¬ prt R.length=0:=by omega
  have hpl:=Tfk R i h1
  rw[show R.length*i / prt R.length=cutAt16 R.length i from rfl,Int.natCast_mul]at q1
  rw[show R.length* (i+1) / prt R.length=cutAt16 R.length (i+1)from rfl,Int.natCast_mul,Int.natCast_add]at q2
  rw[show part16 R i= (R.drop (cutAt16 R.length i)).take (cutAt16 R.length (i+1)-cutAt16 R.length i)from rfl]at d hpl
  have w1:IntKind.wrap .i64 ((R.length:Int)* (i:Int))= (R.length:Int)*i:=by
   rw[← Int.natCast_mul]; exact Tac _ (by omega) (by omega)
  have w2:IntKind.wrap .i64 ((R.length:Int)* ((i:Int)+1))= (R.length:Int)* ((i:Int)+1):=by
   have e: (R.length:Int)* ((i:Int)+1)= ((R.length* (i+1):Nat):Int):=by rw[Int.natCast_mul]; rfl
   rw[e]; exact Tac _ (by omega) (by omega)
  have hrng: (List.range (i+1)).map (fun i=>PV.pt (g i))= (List.range i).map (fun i=>PV.pt (g i))++ [.pt (g i)]:=by rw[List.range_succ,List.map_append]; rfl
  have hol: ((List.range i).map fun i=>PV.pt (g i)).length=i:=by simp
  have ho:=Tl6 ((List.range i).map fun i=>PV.pt (g i)) (.pt (g i))
  rw[← hrng]at ho
  have q2': ((R.length:Int)* ((i:Int)+1)).tdiv (prt R.length)= (cutAt16 R.length (i+1):Nat):=q2
  obtain⟨pt,hpt⟩:∃ pt,(R.drop (cutAt16 R.length i)).take (cutAt16 R.length (i+1)-cutAt16 R.length i)=pt:= ⟨_,rfl⟩
  rw[hpt]at d hpl
  have w3:IntKind.wrap .i64 ((cutAt16 R.length i:Nat):Int)= (cutAt16 R.length i:Nat):=Tac _ (by omega) (by omega)
  have w4:IntKind.wrap .i64 ((cutAt16 R.length (i+1):Nat):Int)= (cutAt16 R.length (i+1):Nat):=Tac _ (by omega) (by omega)
  generalize cutAt16 R.length (i+1)=cb at *
  generalize cutAt16 R.length i=ca at *
  generalize prt R.length=p at *
  have hptl:pt.length≤1073741824:=by omega
  have hcap:pt.length*16≤maxBytes∧pt.length≤9223372036854775807:=by unfold maxBytes; omega
  have hcap2: (i+1)*8≤maxBytes∧i+1≤9223372036854775807:=by unfold maxBytes; omega
  have htk:pt.take pt.length=pt:=List.take_length
  rw[← ih',L_tree_spread_rope_piece_tree_node_rope_piece_rope_counts_0,Tae]
  by_cases hz:pt.length=0
  · have hz':=List.eq_nil_of_length_eq_zero hz
    rw[hz']at d hpt
    have hcc:cb-ca=0:=by omega
    simp(disch:=omega)[h1,w1,w2,q1,q2',w3,w4,hp0,hp0',c1,c2,hz',hpt,d,hcap2,hol,ho,Taa,Tab,Tac,Taj,-getElem?_pos]
  · have hz':¬ pt= []:=fun e=>hz (by rw[e]; rfl)
    simp(disch:=omega)[h1,w1,w2,q1,q2',w3,w4,hp0,hp0',c1,c2,hz,hz',hpt,d,hcap,hcap2,hol,ho,htk,Taa,Tab,Tac,Taj,-getElem?_pos]
theorem spreadLeaf (R:List (List PV))(hR:R.length<1073741824)(f:FuncId)(g:Nat→List PV)(hf:∀ i,i<prt R.length→Run (EX cp) f [.sl 1 (part16 R i)]=some (.val (.pt (g i)))) :
 Run (EX cp) 209 [.sl 1 R,.fn f []]=some (.own 147 1 (ones ((List.range (prt R.length)).map fun i=>PV.pt (g i)))):=by
 have h:=Th8 (cp:=cp) R hR f g hf (prt R.length) 0 (by omega)
 rw[show((0:Nat):Int)=0 from rfl,List.range_zero,List.map_nil,Tpn]at h
 have q1:=Teh (R.length+15) 16
 have e1: ((R.length:Int)+16-1).tdiv 16= (prt R.length:Nat):=by
  have e: (R.length:Int)+16-1= ((R.length+15:Nat):Int):=by omega
  rw[e]; exact q1
 have e2:IntKind.wrap .i64 ((prt R.length:Nat):Int)= (prt R.length:Nat):=Tac _ (by omega) (by unfold prt; omega)
 have ho: (ones ((List.range (prt R.length)).map fun i=>PV.pt (g i))).take (prt R.length)=ones ((List.range (prt R.length)).map fun i=>PV.pt (g i)):=List.take_of_length_le (by simp)
 rw[Tah _ A_tree_spread_rope_piece_tree_node_rope_piece_rope_counts _ rfl rfl rfl]
 generalize prt R.length=p at *
 simp(disch:=omega)[A_tree_spread_rope_piece_tree_node_rope_piece_rope_counts,e1,e2,h,ho,Tac]
set_option maxHeartbeats 2000000 in
theorem Tge (R:List (List PV))(hR:R.length<1073741824)(f:FuncId)(g:Nat→List PV)(hf:∀ i,i<prt R.length→Run (EX cp) f [.sl 1 (part16 R i)]=some (.val (.pt (g i)))):∀(m i:Nat),m+i=prt R.length →
 Code (EX cp) L_tree_spread_tree_node_rope_piece_rope_counts_tree_node_rope_piece_rope_counts_0 ⟨[(0,.p (.sl 1 R)),(1,.p (.fn f [])),(5,.p (pi (prt R.length))),(6,.ms 6 0 i),(14,.p (pi (prt R.length))),(15,.p (pi i))],[(6,.row 147 1 false (ones ((List.range i).map fun i=>PV.pt (g i))))]⟩ =
  some (.ex 0,⟨[(0,.p (.sl 1 R)),(1,.p (.fn f [])),(5,.p (pi (prt R.length))),(6,.ms 6 0 (prt R.length)),(14,.p (pi (prt R.length))),(15,.p (pi (prt R.length))),(16,.p (pb false))],[(6,.row 147 1 false (ones ((List.range (prt R.length)).map fun i=>PV.pt (g i))))]⟩):=by
 intro m
 induction m with
 | zero =>
  intro i hi
  have:i=prt R.length:=by omega
  subst this
  rw[L_tree_spread_tree_node_rope_piece_rope_counts_tree_node_rope_piece_rope_counts_0,Tae]
  simp
 | succ m ih =>
  intro i hi
  have h1:i<prt R.length:=by omega
  have ih':=ih (i+1) (by omega)
  have d:=hf i h1
  have hpn:prt R.length≤R.length:=by unfold prt; omega
  have m1:=Tpp R.length i hR (by omega)
  have m2:=Tpp R.length (i+1) hR (by omega)
  have c1:=Tkn R.length i
  have c2:=Tpo R.length (i+1) (by omega)
  have q1:=Teh (R.length*i) (prt R.length)
  have q2:=Teh (R.length* (i+1)) (prt R.length)
  have hp0:¬ ((prt R.length:Nat):Int)=0:=by omega
  have hp0':¬ prt R.length=0:=by omega
  have hpl:=Tfk R i h1
  rw[show R.length*i / prt R.length=cutAt16 R.length i from rfl,Int.natCast_mul]at q1
  rw[show R.length* (i+1) / prt R.length=cutAt16 R.length (i+1)from rfl,Int.natCast_mul,Int.natCast_add]at q2
  rw[show part16 R i= (R.drop (cutAt16 R.length i)).take (cutAt16 R.length (i+1)-cutAt16 R.length i)from rfl]at d hpl
  have w1:IntKind.wrap .i64 ((R.length:Int)* (i:Int))= (R.length:Int)*i:=by
   rw[← Int.natCast_mul]; exact Tac _ (by omega) (by omega)
  have w2:IntKind.wrap .i64 ((R.length:Int)* ((i:Int)+1))= (R.length:Int)* ((i:Int)+1):=by
   have e: (R.length:Int)* ((i:Int)+1)= ((R.length* (i+1):Nat):Int):=by rw[Int.natCast_mul]; rfl
   rw[e]; exact Tac _ (by omega) (by omega)
  have hrng: (List.range (i+1)).map (fun i=>PV.pt (g i))= (List.range i).map (fun i=>PV.pt (g i))++ [.pt (g i)]:=by rw[List.range_succ,List.map_append]; rfl
  have hol: ((List.range i).map fun i=>PV.pt (g i)).length=i:=by simp
  have ho:=Tl6 ((List.range i).map fun i=>PV.pt (g i)) (.pt (g i))
  rw[← hrng]at ho
  have q2': ((R.length:Int)* ((i:Int)+1)).tdiv (prt R.length)= (cutAt16 R.length (i+1):Nat):=q2
  obtain⟨pt,hpt⟩:∃ pt,(R.drop (cutAt16 R.length i)).take (cutAt16 R.length (i+1)-cutAt16 R.length i)=pt:= ⟨_,rfl⟩
  rw[hpt]at d hpl
  have w3:IntKind.wrap .i64 ((cutAt16 R.length i:Nat):Int)= (cutAt16 R.length i:Nat):=Tac _ (by omega) (by omega)
  have w4:IntKind.wrap .i64 ((cutAt16 R.length (i+1):Nat):Int)= (cutAt16 R.length (i+1):Nat):=Tac _ (by omega) (by omega)
  generalize cutAt16 R.length (i+1)=cb at *
  generalize cutAt16 R.length i=ca at *
  generalize prt R.length=p at *
  have hptl:pt.length≤1073741824:=by omega
  have hcap:pt.length*8≤maxBytes∧pt.length≤9223372036854775807:=by unfold maxBytes; omega
  have hcap2: (i+1)*8≤maxBytes∧i+1≤9223372036854775807:=by unfold maxBytes; omega
  have htk:pt.take pt.length=pt:=List.take_length
  rw[← ih',L_tree_spread_tree_node_rope_piece_rope_counts_tree_node_rope_piece_rope_counts_0,Tae]
  by_cases hz:pt.length=0
  · have hz':=List.eq_nil_of_length_eq_zero hz
    rw[hz']at d hpt
    have hcc:cb-ca=0:=by omega
    simp(disch:=omega)[h1,w1,w2,q1,q2',w3,w4,hp0,hp0',c1,c2,hz',hpt,d,hcap2,hol,ho,Taa,Tab,Tac,Taj,-getElem?_pos]
  · have hz':¬ pt= []:=fun e=>hz (by rw[e]; rfl)
    simp(disch:=omega)[h1,w1,w2,q1,q2',w3,w4,hp0,hp0',c1,c2,hz,hz',hpt,d,hcap,hcap2,hol,ho,htk,Taa,Tab,Tac,Taj,-getElem?_pos]
theorem spreadInner (R:List (List PV))(hR:R.length<1073741824)(f:FuncId)(g:Nat→List PV)(hf:∀ i,i<prt R.length→Run (EX cp) f [.sl 1 (part16 R i)]=some (.val (.pt (g i)))) :
 Run (EX cp) 211 [.sl 1 R,.fn f []]=some (.own 147 1 (ones ((List.range (prt R.length)).map fun i=>PV.pt (g i)))):=by
 have h:=Tge (cp:=cp) R hR f g hf (prt R.length) 0 (by omega)
 rw[show((0:Nat):Int)=0 from rfl,List.range_zero,List.map_nil,Tpn]at h
 have q1:=Teh (R.length+15) 16
 have e1: ((R.length:Int)+16-1).tdiv 16= (prt R.length:Nat):=by
  have e: (R.length:Int)+16-1= ((R.length+15:Nat):Int):=by omega
  rw[e]; exact q1
 have e2:IntKind.wrap .i64 ((prt R.length:Nat):Int)= (prt R.length:Nat):=Tac _ (by omega) (by unfold prt; omega)
 have ho: (ones ((List.range (prt R.length)).map fun i=>PV.pt (g i))).take (prt R.length)=ones ((List.range (prt R.length)).map fun i=>PV.pt (g i)):=List.take_of_length_le (by simp)
 rw[Tah _ A_tree_spread_tree_node_rope_piece_rope_counts_tree_node_rope_piece_rope_counts _ rfl rfl rfl]
 generalize prt R.length=p at *
 simp(disch:=omega)[A_tree_spread_tree_node_rope_piece_rope_counts_tree_node_rope_piece_rope_counts,e1,e2,h,ho,Tac]
theorem Tuq (l:List ByteArray)(i:Nat):part16 (strs l) i=strs (part16 l i):=by
 unfold part16; rw[Tec,Trc,Trb]
theorem Tur (q:List (PV×List ByteArray))(i:Nat):part16 (ones (q.map Prod.fst)) i=ones ((part16 q i).map Prod.fst):=by
 unfold part16; rw[Tgq,List.length_map,Tum,Tul,← List.map_drop,← List.map_take]
theorem Tpq {α:Type}(l:List α)(i:Nat):∀ x∈part16 l i,x∈l:=fun x hx=>List.mem_of_mem_drop (List.mem_of_mem_take hx)
theorem Bd.part {l:List ByteArray}(h:Bd l)(i:Nat):Bd (part16 l i):= (h.drop _).take _
theorem Tkp (q:List (PV×List ByteArray))(h:Bd (its q))(a b:Nat):Bd (its ((q.drop a).take b)):=by
 have h1:Bd (its (q.drop a)):=by
  rw[← List.take_append_drop a q,Tck]at h; exact h.right
 rw[← List.take_append_drop b (q.drop a),Tck]at h1
 exact h1.left
theorem Tfl {d:Nat}:∀(q:List (PV×List ByteArray)),(∀ p∈q,Nd d p.1 p.2)→q.length≤ (its q).length
 | [],_=>by simp
 | p::q,h=>by
  have h1:= (h p (by simp)).deep
  have h2:=Tfl q fun r hr=>h r (by simp[hr])
  rw[Tfj,List.length_append,List.length_cons]; omega
def leavesQ (l:List ByteArray):List (PV×List ByteArray):= (List.range (prt l.length)).map fun i=> (.pt (nodeC [] (part16 l i) (part16 l i).length 1 (cntP (part16 l i))),part16 l i)
theorem Tev (l:List ByteArray):its (leavesQ l)=l:=by
 unfold its leavesQ
 rw[List.map_map]
 exact Tl7 l
theorem Tre (l:List ByteArray):∀ p∈leavesQ l,Nd 0 p.1 p.2:=by
 intro p hp
 obtain⟨i,hi,rfl⟩:=List.mem_map.1 hp
 rw[List.mem_range]at hi
 refine⟨fun e=> ?_,rfl⟩
 have h1:=Tfk l i hi
 have e':part16 l i= []:=e
 rw[e']at h1
 have h2:=Tko l.length i 1 (by unfold prt; omega) (by omega)
 simp at h1; omega
theorem Trf (l:List ByteArray)(h:l≠ []):leavesQ l≠ []:=fun e=>by
 have:=Tev l
 rw[e]at this
 exact h this.symm
theorem Tnn (l:List ByteArray): (leavesQ l).map Prod.fst= (List.range (prt l.length)).map fun i=>PV.pt (nodeC [] (part16 l i) (part16 l i).length 1 (cntP (part16 l i))):=by
 unfold leavesQ; rw[List.map_map]; rfl
theorem T1p (l:List ByteArray)(hb:Bd l):∀ i,i<prt (strs l).length→Run (EX cp) 210 [.sl 1 (part16 (strs l) i)]=some (.val (.pt (nodeC [] (part16 l i) (part16 l i).length 1 (cntP (part16 l i))))):=by
 intro i _
 rw[Tuq]
 exact treeLeaf _ (hb.part i)
theorem spreadLeaves (l:List ByteArray)(hb:Bd l):Run (EX cp) 209 [.sl 1 (strs l),.fn 210 []]=some (.own 147 1 (ones ((leavesQ l).map Prod.fst))):=by
 rw[spreadLeaf (cp:=cp) (strs l) (by rw[Tec]; exact hb.2) _ _ (T1p l hb),Tnn,Tec]
def innerQ (d:Nat)(q:List (PV×List ByteArray)):List (PV×List ByteArray):= (List.range (prt q.length)).map fun i=> (.pt (nodeC ((part16 q i).map Prod.fst) [] (its (part16 q i)).length (d+2) (cntP (its (part16 q i)))),its (part16 q i))
theorem Trg (d:Nat)(q:List (PV×List ByteArray)):its (innerQ d q)=its q:=by
 have h:=Tl7 q
 have key:∀ k,its ((List.range k).map fun i=> ((.pt (nodeC ((part16 q i).map Prod.fst) [] (its (part16 q i)).length (d+2) (cntP (its (part16 q i)))):PV),its (part16 q i)))=its (((List.range k).map (part16 q)).flatten):=by
  intro k
  induction k with
  | zero=>rfl
  | succ k ih=>rw[List.range_succ,List.map_append,List.map_append,Tck,List.flatten_append,Tck,ih]; simp[its]
 unfold innerQ
 rw[key,h]
theorem Trh (d:Nat)(q:List (PV×List ByteArray)): (innerQ d q).length=prt q.length:=by simp[innerQ]
theorem Tus (d:Nat)(q:List (PV×List ByteArray))(hq:∀ p∈q,Nd d p.1 p.2)(h2:2≤q.length):∀ p∈innerQ d q,Nd (d+1) p.1 p.2:=by
 intro p hp
 obtain⟨i,hi,rfl⟩:=List.mem_map.1 hp
 rw[List.mem_range]at hi
 refine⟨part16 q i,?_,fun r hr=>hq r (Tpq q i r hr),rfl,rfl⟩
 rw[Tfk q i hi]
 have:=Tko q.length i 2 (by unfold prt; omega) (by omega)
 omega
theorem Tri (d:Nat)(q:List (PV×List ByteArray)): (innerQ d q).map Prod.fst= (List.range (prt q.length)).map fun i=>PV.pt (nodeC ((part16 q i).map Prod.fst) [] (its (part16 q i)).length (d+2) (cntP (its (part16 q i)))):=by
 unfold innerQ; rw[List.map_map]; rfl
theorem Txw (d:Nat)(q:List (PV×List ByteArray))(hb:Bd (its q))(hq:∀ p∈q,Nd d p.1 p.2)(h2:2≤q.length):∀ i,i<prt (ones (q.map Prod.fst)).length→Run (EX cp) 212 [.sl 1 (part16 (ones (q.map Prod.fst)) i)]=some (.val (.pt (nodeC ((part16 q i).map Prod.fst) [] (its (part16 q i)).length (d+2) (cntP (its (part16 q i)))))):=by
 intro i hi
 rw[Tgq,List.length_map]at hi
 rw[Tur]
 have hc:=Tfl q hq
 have hl:=Tfk q i hi
 have hcl:=Tpo q.length (i+1) hi
 have:=Tko q.length i 2 (by unfold prt; omega) (by omega)
 have:=hb.2
 exact treeInner (part16 q i) (Tkp q hb _ _) d (fun r hr=>hq r (Tpq q i r hr)) (by omega) (by omega)
theorem spreadInners (d:Nat)(q:List (PV×List ByteArray))(hb:Bd (its q))(hq:∀ p∈q,Nd d p.1 p.2)(h2:2≤q.length):Run (EX cp) 211 [.sl 1 (ones (q.map Prod.fst)),.fn 212 []]=some (.own 147 1 (ones ((innerQ d q).map Prod.fst))):=by
 have hc:=Tfl q hq
 have:=hb.2
 rw[spreadInner (cp:=cp) (ones (q.map Prod.fst)) (by rw[Tgq,List.length_map]; omega) _ _ (Txw d q hb hq h2),Tri,Tgq,List.length_map]
def RepT (x:PV)(l:List ByteArray):Prop:= (l= []∧x= .sc (.pointer none))∨∃ d,Nd d x l
theorem Tkq:∀(m d:Nat) (q:List (PV×List ByteArray)),q.length≤m→q≠ []→ (∀ p∈q,Nd d p.1 p.2)→Bd (its q) →
 ∃ x d',Nd d' x (its q)∧Code (EX cp) L_tree_Make_rope_piece_rope_counts_0 ⟨[(2,.mp 2 0 0),(3,.ms 3 0 q.length)],[(2,.row 149 1 false [[.sc (.pointer none)]]),(3,.row 147 1 false (ones (q.map Prod.fst)))]⟩ =
  some (.ex 0,⟨[(2,.mp 2 0 0),(3,.ms 3 0 1),(12,.p (pb false))],[(2,.row 149 1 false [[.sc (.pointer none)]]),(3,.row 147 1 false (ones [x]))]⟩):=by
 intro m
 induction m with
 | zero=>intro d q h1 h2 _ _; exact absurd (List.eq_nil_of_length_eq_zero (by omega)) h2
 | succ m ih =>
  intro d q h1 h2 hq hb
  by_cases hone:q.length=1
  · match q,hone with
    | [p],_ =>
     refine⟨p.1,d,?_,?_⟩
     · rw[Tfj,show its []= []from rfl,List.append_nil]; exact hq p (by simp)
     · rw[L_tree_Make_rope_piece_rope_counts_0,Tae]
       simp[ones]
  · have hq0:0<q.length:=List.length_pos_iff.2 h2
    have h3:2≤q.length:=by omega
    have hc:=Tfl q hq
    have hbl:=hb.2
    have d1:=spreadInners (cp:=cp) d q hb hq h3
    have e1:=Trg d q
    have e2:=Trh d q
    have e3:prt q.length<q.length:=by unfold prt; omega
    have e4:1≤prt q.length:=by unfold prt; omega
    obtain⟨x,d',hx,ih'⟩:=ih (d+1) (innerQ d q) (by omega) (fun e=>by rw[e]at e2; simp at e2; omega) (Tus d q hq h3) (by rw[e1]; exact hb)
    rw[e1]at hx
    refine⟨x,d',hx,?_⟩
    have hol: ((innerQ d q).map Prod.fst).length= (innerQ d q).length:=List.length_map ..
    have htk: (ones (q.map Prod.fst)).take q.length=ones (q.map Prod.fst):=List.take_of_length_le (by simp)
    have hln: (ones (q.map Prod.fst)).length=q.length:=by simp
    rw[← ih',L_tree_Make_rope_piece_rope_counts_0,Tae]
    generalize(innerQ d q).map Prod.fst=ks at *
    generalize(innerQ d q).length=n2 at *
    generalize ones (q.map Prod.fst)=R at *
    generalize q.length=n at *
    simp(disch:=omega)[d1,hol,htk,hln,Taa,Tab]
theorem treeMake (l:List ByteArray)(hb:Bd l):∃ x,Run (EX cp) 175 [.sl 1 (strs l)]=some (.val (.st [x]))∧RepT x l:=by
 rw[Tah _ A_tree_Make_rope_piece_rope_counts _ rfl rfl rfl]
 by_cases hl:l= []
 · subst hl
   exact⟨.sc (.pointer none),by simp[A_tree_Make_rope_piece_rope_counts],.inl ⟨rfl,rfl⟩⟩
 · have hl0:¬ l.length=0:=fun e=>hl (List.eq_nil_of_length_eq_zero e)
   have d1:=spreadLeaves (cp:=cp) l hb
   obtain⟨x,d',hx,h⟩:=Tkq (cp:=cp) (leavesQ l).length 0 (leavesQ l) (Nat.le_refl _) (Trf l hl) (Tre l) (by rw[Tev]; exact hb)
   rw[Tev]at hx
   refine⟨x,?_,.inr ⟨d',hx⟩⟩
   obtain⟨k0,i0,hs⟩:=hx.shape
   rw[hs]at h ⊢
   have hol: ((leavesQ l).map Prod.fst).length= (leavesQ l).length:=List.length_map ..
   have hg: (ones [PV.pt (nodeC k0 i0 l.length (d'+1) (cntP l))])[0]?=some [PV.pt (nodeC k0 i0 l.length (d'+1) (cntP l))]:=rfl
   generalize nodeC k0 i0 l.length (d'+1) (cntP l)=nc at *
   generalize(leavesQ l).map Prod.fst=ks at *
   generalize(leavesQ l).length=n2 at *
   simp(disch:=omega)[A_tree_Make_rope_piece_rope_counts,d1,hol,hl,hl0,h,hg,Taa,Tab,-getElem?_pos]
theorem Trj (s:List UInt8):backN s 0=0:=rfl
theorem Tf7 (s:List UInt8)(n:Nat)(a:UInt8)(h:s[n+1]?=some a):backN s (n+1)=if cont a then backN s n else n+1:=by
 rw[backN,h]
theorem Tut (s:ByteArray)(hv:valid (L s)=true)(hs:s.size<1073741824)(k:Nat)(R2 R3:Ob)(h2:R2.isDp=false)(h3:R3.isDp=false):∀ n,n<s.size →
 Code (EX cp) L_rope_made_0 ⟨[(0,.p (.sc (.string s))),(2,.mp 2 0 0),(3,.ms 3 0 k),(4,.p (pi n))],[(2,R2),(3,R3)]⟩=some (.ex 2,⟨[(0,.p (.sc (.string s))),(2,.mp 2 0 0),(3,.ms 3 0 k),(4,.p (pi (backN (L s) n))),(15,.p (pb false))],[(2,R2),(3,R3)]⟩):=by
 intro n
 induction n with
 | zero =>
  intro h
  obtain⟨a,t,hd⟩:=Tc4 s 0 h
  have hb:= (bt_at s 0 a t hd).1
  rw[show((0:Nat):Int)=0 from rfl]at hb
  rw[List.drop_zero]at hd
  have hc:¬ cont a:=by rw[hd]at hv; exact Teu hv
  have e:=n192 a
  have hr:=Tak a
  have e2:¬ bi a / 64*64=128:=by unfold cont at hc; omega
  rw[Trj,L_rope_made_0,Tae]
  simp(disch:=omega)[hb,e,e2,Tab,Taa,IntKind.bits]
 | succ n ih =>
  intro h
  obtain⟨a,t,hd⟩:=Tc4 s (n+1) h
  have hb:= (bt_at s (n+1) a t hd).1
  have hg: (L s)[n+1]?=some a:=by rw[← List.head?_drop,hd]; rfl
  have e:=n192 a
  have hr:=Tak a
  have ec: ((n+1:Nat):Int)= (n:Int)+1:=rfl
  rw[ec]at hb ⊢
  rw[Tf7 _ _ _ hg]
  by_cases hc:cont a
  · have e2:bi a / 64*64=128:=by unfold cont at hc; omega
    have e3:IntKind.wrap .i64 ((n:Int)+1-1)=n:=by rw[Tac _ (by omega) (by omega)]; omega
    have e4:IntKind.wrap .i64 (n:Int)=n:=Tac _ (by omega) (by omega)
    rw[if_pos hc,← ih (by omega),L_rope_made_0,Tae]
    simp(disch:=omega)[hb,e,e2,e3,e4,Tab,Taa,IntKind.bits]
  · have e2:¬ bi a / 64*64=128:=by unfold cont at hc; omega
    rw[if_neg hc,L_rope_made_0,Tae]
    simp(disch:=omega)[hb,e,e2,Tab,Taa,IntKind.bits]
def cut64 (s:ByteArray):Nat:=if s.size≤64 then s.size else backN (L s) 64
theorem Txx (s:ByteArray)(hv:valid (L s)=true)(h0:0<s.size):1≤cut64 s∧cut64 s≤64∧cut64 s≤s.size∧ (64<s.size→61≤cut64 s)∧valid ((L s).take (cut64 s))=true∧valid ((L s).drop (cut64 s))=true:=by
 unfold cut64
 by_cases c:s.size≤64
 · rw[if_pos c,← L_len,List.take_length,List.drop_length]
   rw[L_len]
   exact⟨by omega,c,Nat.le_refl _,by omega,hv,Ta3⟩
 · rw[if_neg c]
   have h1:=Tpl (L s) 64
   have h2:=Txu (L s) hv 64 (by omega) (by rw[L_len]; omega)
   have h3:=Tpm (L s) hv 64
   obtain⟨v1,v2⟩:=Tuj (L s) (backN (L s) 64) (by rw[L_len]; omega) h3 hv
   exact⟨by omega,h1,by omega,fun _=>by omega,v1,v2⟩
theorem Tno (s:ByteArray)(n:Nat):L (s.extract 0 n)= (L s).take n:=by rw[Tho,List.drop_zero,Nat.sub_zero]
theorem Tnp (s:ByteArray)(n:Nat):L (s.extract n s.size)= (L s).drop n:=by
 rw[Tho,List.take_of_length_le]
 rw[List.length_drop,L_len]; exact Nat.le_refl _
theorem Tl8 (s:ByteArray)(n:Nat)(h:n≤s.size): (s.extract 0 n).size=n:=by rw[← L_len,Tno,List.length_take,L_len]; omega
theorem Tl9 (s:ByteArray)(n:Nat): (s.extract n s.size).size=s.size-n:=by rw[← L_len,Tnp,List.length_drop,L_len]
theorem Tpr {s:ByteArray}(h:s.size=0):s= ⟨#[]⟩:=L_inj (by
 have:L s= []:=List.eq_nil_of_length_eq_zero (by rw[L_len]; exact h)
 rw[this]; rfl)
theorem okP.cons {x:ByteArray}{P:List ByteArray}(hP:okP P)(h1:valid (L x)=true)(h2:1≤x.size)(h3:x.size≤64)(h:∀ y∈P.head?,64<x.size+y.size):okP (x::P) :=
 (T1l x h1 h2 h3).append hP fun u hu y hy=>by
  simp only[List.getLast?_singleton,Option.mem_def,oIE]at hu
  subst hu; exact h y hy
set_option maxHeartbeats 2000000 in
theorem Tuu (R2:Ob)(h2:R2.isDp=false)(h2r:∀ d,R2.ref d=false):∀(m:Nat) (s:ByteArray) (acc:List ByteArray),s.size≤m→valid (L s)=true→s.size<1073741824→acc.length+s.size<1073741824 →
 ∃ P,flat P=L s∧okP P∧ (∀ y∈P.head?,y.size=s.size∨61≤y.size) ∧
  Code (EX cp) L_rope_made_1 ⟨[(0,.p (.sc (.string s))),(2,.mp 2 0 0),(3,.ms 3 0 acc.length)],[(2,R2),(3,.row 153 1 false (strs acc))]⟩ =
   some (.ex 0,⟨[(0,.p (.sc (.string ⟨#[]⟩))),(2,.mp 2 0 0),(3,.ms 3 0 (acc++P).length),(6,.p (pb false))],[(2,R2),(3,.row 153 1 false (strs (acc++P)))]⟩):=by
 intro m
 induction m with
 | zero =>
  intro s acc hm hv hs ha
  obtain rfl:=Tpr (s:=s) (by omega)
  refine⟨[],rfl,Tuk,by simp,?_⟩
  rw[List.append_nil,L_rope_made_1,Tae]
  simp
 | succ m ih =>
  intro s acc hm hv hs ha
  by_cases h0:s.size=0
  · obtain rfl:=Tpr h0
    refine⟨[],rfl,Tuk,by simp,?_⟩
    rw[List.append_nil,L_rope_made_1,Tae]
    simp
  have hne:¬ s= (⟨#[]⟩:ByteArray):=fun e=>h0 (by rw[e]; rfl)
  obtain⟨c1,c2,c3,c4,c5,c6⟩:=Txx s hv (by omega)
  have z1:=Tl8 s (cut64 s) c3
  have z2:=Tl9 s (cut64 s)
  obtain⟨P,p1,p2,p3,p4⟩:=ih (s.extract (cut64 s) s.size) (acc++ [s.extract 0 (cut64 s)]) (by omega) (by rw[Tnp]; exact c6) (by omega) (by rw[List.length_append,List.length_singleton]; omega)
  have hcons:okP (s.extract 0 (cut64 s)::P):=p2.cons (by rw[Tno]; exact c5) (by omega) (by omega) (fun y hy=>by
   have hy1:= (p2.val y (List.mem_of_mem_head? hy)).2.1
   have hy2:y.size≤ (s.extract (cut64 s) s.size).size:=by
    cases P with
    | nil=>simp at hy
    | cons z P =>
     simp only[List.head?_cons,Option.mem_def,oIE]at hy
     subst hy
     rw[← L_len (s.extract _ _),← p1,Tbn,List.length_append,L_len]; omega
   have:=p3 y hy
   by_cases c:s.size≤64
   · have hc:cut64 s=s.size:=by unfold cut64; rw[if_pos c]
     omega
   · have:=c4 (by omega)
     omega)
  refine⟨s.extract 0 (cut64 s)::P,?_,hcons,fun y hy=> ?_,?_⟩
  · rw[Tbn,p1,Tno,Tnp,List.take_append_drop]
  · simp only[List.head?_cons,Option.mem_def,oIE]at hy
    subst hy
    unfold cut64 at z1 c4 ⊢
    split
    · rename_i h; rw[if_pos h]at z1; left; exact z1
    · rename_i h; rw[if_neg h]at z1 c4; right; omega
  rw[show acc++s.extract 0 (cut64 s)::P= (acc++ [s.extract 0 (cut64 s)])++P by simp,← p4]
  have hsn:=Ts8 acc (s.extract 0 (cut64 s))
  have hal: (acc++ [s.extract 0 (cut64 s)]).length=acc.length+1:=by simp
  have hcap: (acc.length+1)*16≤maxBytes∧acc.length+1≤9223372036854775807:=by unfold maxBytes; omega
  by_cases c:s.size≤64
  · have hc:cut64 s=s.size:=by unfold cut64; rw[if_pos c]
    rw[hc]at hsn hal c3 ⊢
    rw[L_rope_made_1,Tae]
    simp(maxSteps:=1000000) (disch:=omega) [hne,h2r,c,hsn,hal,hcap,Taa,Tab,Taj]
  · have hc:cut64 s=backN (L s) 64:=by unfold cut64; rw[if_neg c]
    have hbk:=Tut (cp:=cp) s hv hs acc.length R2 (.row 153 1 false (strs acc)) h2 rfl 64 (by omega)
    rw[show((64:Nat):Int)=64 from rfl,← hc]at hbk
    generalize cut64 s=n at *
    rw[L_rope_made_1,Tae]
    simp(maxSteps:=1000000) (disch:=omega) [hne,h2r,c,c3,hsn,hal,hcap,hbk,Taa,Tab,Taj]
theorem ropeMade (s:ByteArray)(hv:valid (L s)=true)(hs:s.size<1073741824):∃ P x,okP P∧flat P=L s∧RepT x P∧ (s.size≤64→P.length≤1)∧Run (EX cp) 119 [.sc (.string s)]=some (.val (.st [x])):=by
 obtain⟨P,p1,p2,p3,p4⟩:=Tuu (cp:=cp) (.row 149 1 false [[.sc (.pointer none)]]) rfl (fun _=>rfl) s.size s [] (Nat.le_refl _) hv hs (by simpa using hs)
 rw[List.nil_append,Tov,List.length_nil]at p4
 have hl:=p2.len
 rw[p1,L_len]at hl
 obtain⟨x,m1,m2⟩:=treeMake (cp:=cp) P ⟨by rw[p1,L_len]; exact hs,by omega⟩
 refine⟨P,x,p2,p1,m2,fun h64=> ?_,?_⟩
 · match P,p2,p1 with
   | [],_,_=>simp
   | [a],_,_=>simp
   | a::b::P,p2,p1 =>
    have:=p2.adj.1
    have e:=congrArg List.length p1
    rw[Tbn,Tbn]at e
    simp only[List.length_append,L_len]at e
    omega
 · have htk: (strs P).take P.length=strs P:=List.take_of_length_le (by simp)
   rw[Tah _ A_rope_made _ rfl rfl rfl]
   simp(disch:=omega)[A_rope_made,p4,m1,htk]
def Rp (r:PV)(s:ByteArray):Prop:=∃ x P,r= .pt [x]∧RepT x P∧okP P∧flat P=L s∧s.size<1073741824
theorem Rp.val {r:PV}{s:ByteArray}(h:Rp r s):valid (L s)=true:=by
 obtain⟨x,P,_,_,h1,h2,_⟩:=h
 rw[← h2]; exact Tra P fun x hx=> (h1.val x hx).1
theorem Rp.size {r:PV}{s:ByteArray}(h:Rp r s):s.size<1073741824:=by
 obtain⟨_,_,_,_,_,_,h⟩:=h; exact h
theorem Rp.make {x:PV}{P:List ByteArray}{s:ByteArray}(h1:RepT x P)(h2:okP P)(h3:flat P=L s)(h4:s.size<1073741824):Rp (.pt [x]) s:= ⟨x,P,rfl,h1,h2,h3,h4⟩
theorem ropeNew (s:ByteArray)(hs:s.size<268435456): (20000< (cleanS s).size∧Run (EX cp) 72 [.sc (.string s)]=some (.val (.tu [.sc (.pointer none),pi 13]))) ∨
 ((cleanS s).size≤20000∧∃ r,Rp r (cleanS s)∧Run (EX cp) 72 [.sc (.string s)]=some (.val (.tu [r,pi 0]))):=by
 have d1:=utfClean (cp:=cp) s (by omega)
 have e:L (cleanS s)=clean (L s):=L_mk _
 have hcl:=Tgj (L s)
 rw[L_len,← e,L_len]at hcl
 rw[Tah _ A_rope_New _ rfl rfl rfl]
 by_cases c: (cleanS s).size≤20000
 · right
   obtain⟨P,x,m1,m2,m3,_,m4⟩:=ropeMade (cp:=cp) (cleanS s) (by rw[e]; exact Tct _) (by omega)
   refine⟨c,.pt [x],Rp.make m3 m1 m2 (by omega),?_⟩
   simp(disch:=omega)[A_rope_New,d1,m4,c,Taa,Tab]
 · left
   refine⟨by omega,?_⟩
   simp(disch:=omega)[A_rope_New,d1,c,Taa,Tab]
end Go.Proofs.YtjpibniecllafaaGreat.AM
end
section
namespace Go.Proofs.YtjpibniecllafaaGreat.AM
open Go Go.Proofs.YtjpibniecllafaaGreat.U
theorem Tkr (t:ByteArray)(x y:List UInt8)(h:L t=x++y)(hx:valid x=true)(hy:valid y=true):edge t (x.length:Nat)=true:=by
 have hl:t.size=x.length+y.length:=by rw[← L_len,h,List.length_append]
 refine T1b (by omega) (by omega) ?_ ?_
 · rw[Int.toNat_natCast,h,List.take_left']
   · exact hx
   · rfl
 · rw[Int.toNat_natCast,h,List.drop_left']
   · exact hy
   · rfl
theorem Tps (s:List UInt8)(k:Nat)(hk:k=0∨∃ a,s[k]?=some a∧¬ cont a):∀ m,(∀ j,k<j→j≤k+m→∃ a,s[j]?=some a∧cont a)→backN s (k+m)=k
 | 0, h=>by
  rw[Nat.add_zero]
  rcases Nat.eq_zero_or_pos k with c | c
  · subst c; rfl
  · rcases hk with rfl | ⟨a,h1,h2⟩
    · omega
    · obtain⟨k',rfl⟩:∃ k',k=k'+1:= ⟨k-1,by omega⟩
      rw[Tf7 s k' a h1,if_neg h2]
 | m+1,h=>by
  obtain⟨a,h1,h2⟩:=h (k+m+1) (by omega) (by omega)
  rw[show k+ (m+1)=k+m+1 by omega,Tf7 s (k+m) a h1,if_pos h2]
  exact Tps s k hk m fun j h3 h4=>h j h3 (by omega)
theorem Tuv (p:List UInt8)(v:Int)(hv:sc v):backN (p++enc v) ((p++enc v).length-1)=p.length:=by
 obtain⟨a,t,e,h1,h2⟩:=Tfc v hv
 rw[e]
 have:=Tps (p++a::t) p.length (Or.inr ⟨a,by simp,h1⟩) t.length fun j h3 h4=>by
  obtain⟨i,rfl⟩:∃ i,j=p.length+1+i:= ⟨j-p.length-1,by omega⟩
  have hi:i<t.length:=by omega
  refine⟨t[i],?_,h2 _ (List.getElem_mem hi)⟩
  rw[List.getElem?_append_right (by omega),show p.length+1+i-p.length=i+1 by omega,List.getElem?_cons_succ,List.getElem?_eq_getElem hi]
 rw[List.length_append,List.length_cons,show p.length+ (t.length+1)-1=p.length+t.length by omega]
 exact this
theorem Tyu (a b:List At):tl (a++b)=tl a++tl b:=by simp[tl]
theorem Tuw (a:At):tl [a]=L a.txt:=by simp[tl]
theorem Tnq (a b:List At):szN (a++b)=szN a+szN b:=by simp[szN]
theorem Tux (a:At):szN [a]=a.txt.size:=by simp[szN]
theorem okTx.left {a b:List At}(h:okTx (a++b)):okTx a:=fun x hx=>h x (List.mem_append_left _ hx)
theorem Tew:∀ {l:List At},okTx l→l.length≤szN l
 | [],h=>by simp
 | a::l,h=>by
  have h1:=h.size a (List.mem_cons_self ..)
  have h2:=Tew (l:=l) fun b hb=>h b (List.mem_cons_of_mem _ hb)
  have h3:szN (a::l)=a.txt.size+szN l:=by simp[szN]
  rw[List.length_cons]; omega
theorem Tuy {l:List At}(h:okTx l): (points (tl l)).length=l.length:=by
 obtain⟨vs,h1,h2⟩:=h.vs
 have ht:tl l=encs vs:=by unfold tl; rw[h2,Tpg]
 have hl:l.length=vs.length:=by have:=congrArg List.length h2; simpa using this
 rw[ht,Td1 vs h1,hl]
theorem Tuz:∀ l:List At,szs l= (szN l:Int)
 | []=>rfl
 | a::l=>by
  have:=Tuz l
  have h3:szN (a::l)=a.txt.size+szN l:=by simp[szN]
  have h4:szs (a::l)=a.txt.size+szs l:=by simp[szs]
  rw[h3,h4,this]; omega
theorem Tu0 {l m:List At}(h: (l.map fun a=>a.txt)=m.map fun a=>a.txt):tl l=tl m:=by unfold tl; rw[h]
theorem Trk {a:At}{c:Int}(h:a.rv=1∧a.gr=1∧a.cuts= [(c,2)])(r:Int)(h1:1≤r)(hr:r<c):a.vis r []=true:=by
 unfold At.vis
 have e1:holdsF 1 []=true:=by decide
 have e2:¬ c≤r:=by omega
 rw[h.1,h.2.1,h.2.2,e1]
 simp[h1,e2]
structure ErA (A:List At):Prop where
 ok:okTx A
 new:∀ a∈A,a.rv=1∧a.gr=1∧a.cuts= []
 sz:szN A≤60
structure ErSt (A:List At) (i:Nat) (E:Eng):Prop where
 er:Era A i E.l
 hU:E.U=List.replicate (i+2) []
 hfl:E.fl=0
 hG:E.G=if i=0 then[1]else[1,2]
 hF:E.F= []
theorem Era.len {A l:List At}{i:Nat}(h:Era A i l)(hi:i≤A.length):l.length=A.length:=by
 obtain⟨Q,h1,h2,_⟩:=h
 have h3:=congrArg List.length h2
 rw[List.length_map,List.length_map,List.length_drop]at h3
 rw[h1,List.length_append,List.length_take,h3]; omega
theorem Era.ok {A l:List At}{i:Nat}(hA:okTx A)(h:Era A i l):okTx l:=by
 obtain⟨Q,h1,h2,_⟩:=h
 intro a ha
 rw[h1]at ha
 rcases List.mem_append.1 ha with h | h
 · exact hA a (List.mem_of_mem_take h)
 · have:a.txt∈ (A.drop (A.length-i)).map fun a=>a.txt:=by rw[← h2]; exact List.mem_map_of_mem h
   obtain⟨b,hb,e⟩:=List.mem_map.1 this
   obtain⟨v,h5,h6⟩:=hA b (List.mem_of_mem_drop hb)
   exact⟨v,h5,by rw[← e,h6]⟩
theorem Era.txt {A l:List At}{i:Nat}(hA:ErA A)(h:Era A i l)(r:Int)(hr: (i:Int)+1≤r):txtF r [] l=tl (A.take (A.length-i)):=by
 obtain⟨Q,h1,h2,h3⟩:=h
 rw[h1]
 refine Tl1 r [] _ _ (fun a ha=> ?_) fun a ha=> ?_
 · exact Tfi (hA.new a (List.mem_of_mem_take ha)) r (by omega) [] (by decide)
 · obtain⟨q1,q2,c,q3,q4,q5⟩:=h3 a ha
   exact Tdi ⟨q1,q2,q3⟩ r (by omega)
theorem Era.txtU {A l:List At}{i:Nat}(hA:ErA A)(h:Era A i l)(r:Int)(hr:1≤r):txtF r [2] l=tl A:=by
 obtain⟨Q,h1,h2,h3⟩:=h
 have hall:∀ a∈l,a.vis r [2]=true:=by
  intro a ha
  rw[h1]at ha
  rcases List.mem_append.1 ha with h | h
  · exact Tfi (hA.new a (List.mem_of_mem_take h)) r (by omega) [2] (by decide)
  · obtain⟨q1,q2,c,q3,q4,q5⟩:=h3 a h
    exact Th5 ⟨q1,q2,q3⟩ r hr
 rw[Typ r [2] l hall]
 apply Tu0
 rw[h1,List.map_append,h2,← List.map_append,List.take_append_drop]
theorem ErSt.ok {A:List At}{i:Nat}{E:Eng}(hA:ErA A)(h:ErSt A i E)(hi:i≤A.length):EOk E:=by
 have h60:=Tew hA.ok
 have hsz:=hA.sz
 have hl:=h.er.len hi
 obtain⟨l,U,fl,G,F⟩:=E
 obtain⟨e1,e2,e3,e4,e5⟩:=h
 simp only at e1 e2 e3 e4 e5 hl
 subst e2 e3 e5
 refine⟨by show l.length≤4000; omega,e1.ok hA.ok,fun a ha=> ?_,by simp,by simp,by simp; omega,fun x hx=> ?_⟩
 · have hc:a.cuts.length≤1:=by
    obtain⟨Q,h1,h2,h3⟩:=e1
    replace ha:a∈l:=ha
    rw[h1]at ha
    rcases List.mem_append.1 ha with h | h
    · rw[(hA.new a (List.mem_of_mem_take h)).2.2]; simp
    · obtain⟨q1,q2,c,q3,_⟩:=h3 a h
      rw[q3]; simp
   simp; omega
 · have:x= []:=List.eq_of_mem_replicate hx
   rw[this]; simp; omega
theorem ErSt.ut {A:List At}{i:Nat}{E:Eng}(h:ErSt A i E)(r:Int):E.ut r= []:=by
 unfold Eng.ut; rw[h.hU]; exact Txn _ _ _
theorem ErSt.at_ {A:List At}{i:Nat}{E:Eng}(hA:ErA A)(h:ErSt A i E)(r:Int)(hr: (i:Int)+1≤r):L (E.textAt r)=tl (A.take (A.length-i)):=by
 unfold Eng.textAt
 rw[h.ut,show L (txtS r [] E.l)=txtF r [] E.l from L_mk _]
 exact h.er.txt hA r hr
theorem ErSt.hd {A:List At}{i:Nat}{E:Eng}(h:ErSt A i E):E.fl+ (E.U.length:Int)-1=i+1:=by
 rw[h.hfl,h.hU,List.length_replicate]; omega
theorem ErSt.txt {A:List At}{i:Nat}{E:Eng}(hA:ErA A)(h:ErSt A i E):L E.txt=tl (A.take (A.length-i)):=by
 rw[← h.at_ hA (i+1) (Int.le_refl _)]
 show L (headT E.l E.U E.fl)=_
 unfold headT Eng.textAt Eng.ut
 rw[h.hd]
theorem ErSt.size {A:List At}{i:Nat}{E:Eng}(hA:ErA A)(h:ErSt A i E):E.txt.size=szN (A.take (A.length-i)):=by
 rw[← L_len,h.txt hA,Td5]
theorem Tei (A:List At)(k:Nat):szN (A.take k)≤szN A:=by
 have:=Tnq (A.take k) (A.drop k)
 rw[List.take_append_drop]at this; omega
end Go.Proofs.YtjpibniecllafaaGreat.AM
end
section
namespace Go.Proofs.YtjpibniecllafaaGreat.AM
open Go Go.Proofs.YtjpibniecllafaaGreat.U
variable {cp:List PV→Option Ret}
section
variable (base:Int)(R:List (List PV))(n:Nat)(size to:Int)(i:Nat)(xf xt:Int)(xs:ByteArray)(res:Option (Out×St))
variable (hR:R.length=n)(hn:n≤60)(hi:i<n)(h1:R[i]?=some [pi xf,pi xt,.sc (.string xs)])
include hR hn hi h1
set_option maxHeartbeats 4000000 in
theorem T27 (hi0:i=0)(he:Run (EX cp) 177 [.st [pi xf,pi xt,.sc (.string xs)],pi base,pi to,pb false,pb false]=some (.val (pb false))):Code (EX cp) L_delta_Is_0 (dS base R n size to i)=some (.ret,dX):=by
 subst hi0
 have _h:=And.intro hR hn
 unfold dS dX
 rw[L_delta_Is_0,Tae]
 simp(maxSteps:=1000000) (disch:=omega) [hR,hi,h1,he,Taa,Tab,Tac,Taj,-getElem?_pos]
set_option maxHeartbeats 4000000 in
theorem T1q (hi0:i=0)(he:Run (EX cp) 177 [.st [pi xf,pi xt,.sc (.string xs)],pi base,pi to,pb false,pb false]=some (.val (pb true)))(hc:Run (EX cp) 176 [.st [pi xf,pi xt,.sc (.string xs)]]=some (.val (pb true)))(b1:0≤xf)(b2:xf≤xt)(b3:xt≤20000)(b4:xs.size≤20000)(s1:0≤size)(s2:size≤20000)(hz:¬ size+ (xt-xf+xs.size)≤20000):Code (EX cp) L_delta_Is_0 (dS base R n size to i)=some (.ret,dX):=by
 subst hi0
 have _h:=And.intro hR hn
 unfold dS dX
 rw[L_delta_Is_0,Tae]
 simp(maxSteps:=1000000) (disch:=omega) [hR,hi,h1,he,hc,hz,Taa,Tab,Tac,Taj,-getElem?_pos]
set_option maxHeartbeats 4000000 in
theorem Tu1 (hi0:i=0)(he:Run (EX cp) 177 [.st [pi xf,pi xt,.sc (.string xs)],pi base,pi to,pb false,pb false]=some (.val (pb true)))(hc:Run (EX cp) 176 [.st [pi xf,pi xt,.sc (.string xs)]]=some (.val (pb true)))(b1:0≤xf)(b2:xf≤xt)(b3:xt≤20000)(b4:xs.size≤20000)(s1:0≤size)(s2:size≤20000)(hz:size+ (xt-xf+xs.size)≤20000)(ih:Code (EX cp) L_delta_Is_0 (dS base R n (size+ (xt-xf+xs.size)) xt (i+1))=res):Code (EX cp) L_delta_Is_0 (dS base R n size to i)=res:=by
 subst hi0
 have _h:=And.intro hR hn
 rw[← ih]
 unfold dS
 conv=>lhs; rw[L_delta_Is_0,Tae]
 rw[show((0+1:Nat):Int)= (0:Int)+1 by omega]
 simp(maxSteps:=1000000) (disch:=omega) [hR,hi,h1,he,hc,hz,Taa,Tab,Tac,Taj,-getElem?_pos]
 rw[L_delta_Is_0]
end
end Go.Proofs.YtjpibniecllafaaGreat.AM
end
section
namespace Go.Proofs.YtjpibniecllafaaGreat.AM
open Go Go.Proofs.YtjpibniecllafaaGreat.U
variable {cp:List PV→Option Ret}
section
variable (base:Int)(R:List (List PV))(n:Nat)(size to:Int)(i:Nat)(xf xt:Int)(xs:ByteArray)(res:Option (Out×St))
variable (hR:R.length=n)(hn:n≤60)(hi:i<n)(h1:R[i]?=some [pi xf,pi xt,.sc (.string xs)])
include hR hn hi h1
set_option maxHeartbeats 4000000 in
theorem T1r (hi0:i=0)(he:Run (EX cp) 177 [.st [pi xf,pi xt,.sc (.string xs)],pi base,pi to,pb false,pb false]=some (.val (pb true)))(hc:Run (EX cp) 176 [.st [pi xf,pi xt,.sc (.string xs)]]=some (.val (pb false)))(b1:0≤xf)(b2:xf≤xt)(b3:xt≤20000)(b4:xs.size≤20000)(s1:0≤size)(s2:size≤20000)(hz:¬ size+ (xt-xf+xs.size)≤20000):Code (EX cp) L_delta_Is_0 (dS base R n size to i)=some (.ret,dX):=by
 subst hi0
 have _h:=And.intro hR hn
 unfold dS dX
 rw[L_delta_Is_0,Tae]
 simp(maxSteps:=1000000) (disch:=omega) [hR,hi,h1,he,hc,hz,Taa,Tab,Tac,Taj,-getElem?_pos]
set_option maxHeartbeats 4000000 in
theorem Tu2 (hi0:i=0)(he:Run (EX cp) 177 [.st [pi xf,pi xt,.sc (.string xs)],pi base,pi to,pb false,pb false]=some (.val (pb true)))(hc:Run (EX cp) 176 [.st [pi xf,pi xt,.sc (.string xs)]]=some (.val (pb false)))(b1:0≤xf)(b2:xf≤xt)(b3:xt≤20000)(b4:xs.size≤20000)(s1:0≤size)(s2:size≤20000)(hz:size+ (xt-xf+xs.size)≤20000)(ih:Code (EX cp) L_delta_Is_0 (dS base R n (size+ (xt-xf+xs.size)) to (i+1))=res):Code (EX cp) L_delta_Is_0 (dS base R n size to i)=res:=by
 subst hi0
 have _h:=And.intro hR hn
 rw[← ih]
 unfold dS
 conv=>lhs; rw[L_delta_Is_0,Tae]
 rw[show((0+1:Nat):Int)= (0:Int)+1 by omega]
 simp(maxSteps:=1000000) (disch:=omega) [hR,hi,h1,he,hc,hz,Taa,Tab,Tac,Taj,-getElem?_pos]
 rw[L_delta_Is_0]
end
end Go.Proofs.YtjpibniecllafaaGreat.AM
end
section
namespace Go.Proofs.YtjpibniecllafaaGreat.AM
open Go Go.Proofs.YtjpibniecllafaaGreat.U
variable {cp:List PV→Option Ret}
section
variable (base:Int)(R:List (List PV))(n:Nat)(size to:Int)(i:Nat)(xf xt:Int)(xs:ByteArray)(res:Option (Out×St))
variable (hR:R.length=n)(hn:n≤60)(hi:i<n)(h1:R[i]?=some [pi xf,pi xt,.sc (.string xs)])
include hR hn hi h1
set_option maxHeartbeats 4000000 in
theorem T28 (cy:Bool)(yf yt ys:PV)(hy:R[i-1]?=some [yf,yt,ys])(h0:0<i)(hcy:Run (EX cp) 176 [.st [yf,yt,ys]]=some (.val (pb cy)))(he:Run (EX cp) 177 [.st [pi xf,pi xt,.sc (.string xs)],pi base,pi to,pb true,pb cy]=some (.val (pb false))):Code (EX cp) L_delta_Is_0 (dS base R n size to i)=some (.ret,dX):=by
 have h0': (0:Int)< (i:Int):=by omega
 have ek: ((i:Int)-1).toNat=i-1:=by omega
 have e0: (0:Int)≤ (i:Int)-1:=by omega
 have e01:1≤i:=by omega
 have e02: (1:Int)≤ (i:Int):=by omega
 have _h:=And.intro hR hn
 unfold dS dX
 rw[L_delta_Is_0,Tae]
 simp(maxSteps:=1000000) (disch:=omega) [hR,hi,h1,he,hy,hcy,h0,h0',ek,e0,e01,e02,Taa,Tab,Tac,Taj,-getElem?_pos]
set_option maxHeartbeats 4000000 in
theorem T1s (cy:Bool)(yf yt ys:PV)(hy:R[i-1]?=some [yf,yt,ys])(h0:0<i)(hcy:Run (EX cp) 176 [.st [yf,yt,ys]]=some (.val (pb cy)))(he:Run (EX cp) 177 [.st [pi xf,pi xt,.sc (.string xs)],pi base,pi to,pb true,pb cy]=some (.val (pb true)))(hc:Run (EX cp) 176 [.st [pi xf,pi xt,.sc (.string xs)]]=some (.val (pb true)))(b1:0≤xf)(b2:xf≤xt)(b3:xt≤20000)(b4:xs.size≤20000)(s1:0≤size)(s2:size≤20000)(hz:¬ size+ (xt-xf+xs.size)≤20000):Code (EX cp) L_delta_Is_0 (dS base R n size to i)=some (.ret,dX):=by
 have h0': (0:Int)< (i:Int):=by omega
 have ek: ((i:Int)-1).toNat=i-1:=by omega
 have e0: (0:Int)≤ (i:Int)-1:=by omega
 have e01:1≤i:=by omega
 have e02: (1:Int)≤ (i:Int):=by omega
 have _h:=And.intro hR hn
 unfold dS dX
 rw[L_delta_Is_0,Tae]
 simp(maxSteps:=1000000) (disch:=omega) [hR,hi,h1,he,hc,hz,hy,hcy,h0,h0',ek,e0,e01,e02,Taa,Tab,Tac,Taj,-getElem?_pos]
end
end Go.Proofs.YtjpibniecllafaaGreat.AM
end
section
namespace Go.Proofs.YtjpibniecllafaaGreat.AM
open Go Go.Proofs.YtjpibniecllafaaGreat.U
variable {cp:List PV→Option Ret}
section
variable (base:Int)(R:List (List PV))(n:Nat)(size to:Int)(i:Nat)(xf xt:Int)(xs:ByteArray)(res:Option (Out×St))
variable (hR:R.length=n)(hn:n≤60)(hi:i<n)(h1:R[i]?=some [pi xf,pi xt,.sc (.string xs)])
include hR hn hi h1
set_option maxHeartbeats 4000000 in
theorem Tu3 (cy:Bool)(yf yt ys:PV)(hy:R[i-1]?=some [yf,yt,ys])(h0:0<i)(hcy:Run (EX cp) 176 [.st [yf,yt,ys]]=some (.val (pb cy)))(he:Run (EX cp) 177 [.st [pi xf,pi xt,.sc (.string xs)],pi base,pi to,pb true,pb cy]=some (.val (pb true)))(hc:Run (EX cp) 176 [.st [pi xf,pi xt,.sc (.string xs)]]=some (.val (pb true)))(b1:0≤xf)(b2:xf≤xt)(b3:xt≤20000)(b4:xs.size≤20000)(s1:0≤size)(s2:size≤20000)(hz:size+ (xt-xf+xs.size)≤20000)(ih:Code (EX cp) L_delta_Is_0 (dS base R n (size+ (xt-xf+xs.size)) xt (i+1))=res):Code (EX cp) L_delta_Is_0 (dS base R n size to i)=res:=by
 have h0': (0:Int)< (i:Int):=by omega
 have ek: ((i:Int)-1).toNat=i-1:=by omega
 have e0: (0:Int)≤ (i:Int)-1:=by omega
 have e01:1≤i:=by omega
 have e02: (1:Int)≤ (i:Int):=by omega
 have _h:=And.intro hR hn
 rw[← ih]
 unfold dS
 conv=>lhs; rw[L_delta_Is_0,Tae]
 rw[show((i+1:Nat):Int)= (i:Int)+1 by omega]
 simp(maxSteps:=1000000) (disch:=omega) [hR,hi,h1,he,hc,hz,hy,hcy,h0,h0',ek,e0,e01,e02,Taa,Tab,Tac,Taj,-getElem?_pos]
 rw[L_delta_Is_0]
end
end Go.Proofs.YtjpibniecllafaaGreat.AM
end
section
namespace Go.Proofs.YtjpibniecllafaaGreat.AM
open Go Go.Proofs.YtjpibniecllafaaGreat.U
variable {cp:List PV→Option Ret}
section
variable (base:Int)(R:List (List PV))(n:Nat)(size to:Int)(i:Nat)(xf xt:Int)(xs:ByteArray)(res:Option (Out×St))
variable (hR:R.length=n)(hn:n≤60)(hi:i<n)(h1:R[i]?=some [pi xf,pi xt,.sc (.string xs)])
include hR hn hi h1
set_option maxHeartbeats 4000000 in
theorem T1t (cy:Bool)(yf yt ys:PV)(hy:R[i-1]?=some [yf,yt,ys])(h0:0<i)(hcy:Run (EX cp) 176 [.st [yf,yt,ys]]=some (.val (pb cy)))(he:Run (EX cp) 177 [.st [pi xf,pi xt,.sc (.string xs)],pi base,pi to,pb true,pb cy]=some (.val (pb true)))(hc:Run (EX cp) 176 [.st [pi xf,pi xt,.sc (.string xs)]]=some (.val (pb false)))(b1:0≤xf)(b2:xf≤xt)(b3:xt≤20000)(b4:xs.size≤20000)(s1:0≤size)(s2:size≤20000)(hz:¬ size+ (xt-xf+xs.size)≤20000):Code (EX cp) L_delta_Is_0 (dS base R n size to i)=some (.ret,dX):=by
 have h0': (0:Int)< (i:Int):=by omega
 have ek: ((i:Int)-1).toNat=i-1:=by omega
 have e0: (0:Int)≤ (i:Int)-1:=by omega
 have e01:1≤i:=by omega
 have e02: (1:Int)≤ (i:Int):=by omega
 have _h:=And.intro hR hn
 unfold dS dX
 rw[L_delta_Is_0,Tae]
 simp(maxSteps:=1000000) (disch:=omega) [hR,hi,h1,he,hc,hz,hy,hcy,h0,h0',ek,e0,e01,e02,Taa,Tab,Tac,Taj,-getElem?_pos]
end
end Go.Proofs.YtjpibniecllafaaGreat.AM
end
section
namespace Go.Proofs.YtjpibniecllafaaGreat.AM
open Go Go.Proofs.YtjpibniecllafaaGreat.U
variable {cp:List PV→Option Ret}
section
variable (base:Int)(R:List (List PV))(n:Nat)(size to:Int)(i:Nat)(xf xt:Int)(xs:ByteArray)(res:Option (Out×St))
variable (hR:R.length=n)(hn:n≤60)(hi:i<n)(h1:R[i]?=some [pi xf,pi xt,.sc (.string xs)])
include hR hn hi h1
set_option maxHeartbeats 4000000 in
theorem Tu4 (cy:Bool)(yf yt ys:PV)(hy:R[i-1]?=some [yf,yt,ys])(h0:0<i)(hcy:Run (EX cp) 176 [.st [yf,yt,ys]]=some (.val (pb cy)))(he:Run (EX cp) 177 [.st [pi xf,pi xt,.sc (.string xs)],pi base,pi to,pb true,pb cy]=some (.val (pb true)))(hc:Run (EX cp) 176 [.st [pi xf,pi xt,.sc (.string xs)]]=some (.val (pb false)))(b1:0≤xf)(b2:xf≤xt)(b3:xt≤20000)(b4:xs.size≤20000)(s1:0≤size)(s2:size≤20000)(hz:size+ (xt-xf+xs.size)≤20000)(ih:Code (EX cp) L_delta_Is_0 (dS base R n (size+ (xt-xf+xs.size)) to (i+1))=res):Code (EX cp) L_delta_Is_0 (dS base R n size to i)=res:=by
 have h0': (0:Int)< (i:Int):=by omega
 have ek: ((i:Int)-1).toNat=i-1:=by omega
 have e0: (0:Int)≤ (i:Int)-1:=by omega
 have e01:1≤i:=by omega
 have e02: (1:Int)≤ (i:Int):=by omega
 have _h:=And.intro hR hn
 rw[← ih]
 unfold dS
 conv=>lhs; rw[L_delta_Is_0,Tae]
 rw[show((i+1:Nat):Int)= (i:Int)+1 by omega]
 simp(maxSteps:=1000000) (disch:=omega) [hR,hi,h1,he,hc,hz,hy,hcy,h0,h0',ek,e0,e01,e02,Taa,Tab,Tac,Taj,-getElem?_pos]
 rw[L_delta_Is_0]
end
end Go.Proofs.YtjpibniecllafaaGreat.AM
end
section
namespace Go.Proofs.YtjpibniecllafaaGreat.AM
open Go Go.Proofs.YtjpibniecllafaaGreat.U
variable {cp:List PV→Option Ret}
theorem Tu5 (base:Int) (l:List Ch) (hb:base≤20000) (hl:l.length≤60) (hs:∀ x∈l,x.s.size<1099511627776):∀(m i:Nat) (size to:Int),m+i=l.length→0≤size→size≤20000→0≤to →
 (isL base (l.drop i) size to (prv l i)=true→∃ a b c,Code (EX cp) L_delta_Is_0 (dS base (chs l) l.length size to i)=some (.ex 0,⟨[(1,.mp 1 0 0),(3,.p (pi a)),(4,.p (pi b)),(23,.p (.sl 3 (chs l))),(24,.p (pi l.length)),(25,.p (pi l.length)),(26,.p (pb false))],c⟩)) ∧
 (isL base (l.drop i) size to (prv l i)=false→Code (EX cp) L_delta_Is_0 (dS base (chs l) l.length size to i)=some (.ret,dX))
 | 0,i,size,to,hm,_,_,_=>by
  obtain rfl:i=l.length:=by omega
  have hbl:=Tb3 l
  rw[List.drop_length]
  refine⟨fun _=> ⟨size,to,[(1,.row 131 2 false [[pi base,.sl 3 (chs l)]])],?_⟩,fun h=>by simp[isL]at h⟩
  rw[L_delta_Is_0,Tae]
  unfold dS
  generalize chs l=R at *
  generalize l.length=n at *
  simp(disch:=omega)[Tab,-getElem?_pos]
 | m + 1,i,size,to,hm,q1,q2,q3=>by
  have hi:i<l.length:=by omega
  have h1:=Tdg l i hi
  have hx:=hs _ (List.getElem_mem hi)
  have hp:prv l (i+1)=some (cpE l[i]):=by unfold prv; rw[if_neg (by omega),Nat.add_sub_cancel,List.getElem?_eq_getElem hi]; rfl
  have hbl:=Tb3 l
  rw[List.drop_eq_getElem_cons hi,isL]
  have e1:=runElem (cp:=cp) l[i] base to (prv l i).isSome ((prv l i).getD false) hx
  have e2:=runIsCopy (cp:=cp) l[i]
  have ih:=Tu5 base l hb hl hs m (i+1) (size+ (l[i].t-l[i].f+l[i].s.size)) (if cpE l[i]=true then l[i].t else to) (by omega)
  rw[hp]at ih
  have hw:elemF l[i] base to (prv l i).isSome ((prv l i).getD false)=true→0≤l[i].f∧l[i].f≤l[i].t∧l[i].t≤20000∧l[i].s.size≤20000:=fun h=>Tpi h q3 hb
  have hprev: (i=0∧prv l i=none)∨ (0<i∧∃ y:Ch,(chs l)[i-1]?=some y.pv∧prv l i=some (cpE y)∧Run (EX cp) 176 [.st y.pv]=some (.val (pb (cpE y)))):=by
   rcases Nat.eq_zero_or_pos i with h | h
   · exact Or.inl ⟨h,by unfold prv; rw[if_pos h]⟩
   · refine Or.inr ⟨h,l[i-1],Tdg l (i-1) (by omega),?_,runIsCopy l[i-1]⟩
     unfold prv; rw[if_neg (by omega),List.getElem?_eq_getElem (by omega)]; rfl
  generalize l[i]=x at *
  generalize isL base (l.drop (i+1)) _ _ (some (cpE x))=rest at *
  generalize chs l=R at *
  generalize l.length=n at *
  obtain⟨xf,xt,xs⟩:=x
  simp only[Ch.pv]at h1 e1 e2 hw ih ⊢
  rcases hprev with⟨h0,hv⟩ | ⟨h0,y,hy,hv,hcy⟩
  · rw [hv]at e1 hw ⊢
    simp only[Option.isSome_none,Option.getD_none]at e1 hw ⊢
    cases he:elemF ⟨xf,xt,xs⟩ base to false false with
    | false =>
     rw[he]at e1
     exact⟨fun h=>by simp at h,fun _=>T27 base R n size to i xf xt xs hbl hl hi h1 h0 e1⟩
    | true =>
     rw[he]at e1
     obtain⟨b1,b2,b3,b4⟩:=hw he
     rw[Bool.true_and]
     by_cases c2:size+ (xt-xf+xs.size)≤20000
     · rw[decide_eq_true c2,Bool.true_and]
       obtain⟨ih1,ih2⟩:=ih (by omega) c2 (by split<;> omega)
       cases hc:cpE ⟨xf,xt,xs⟩with
       | true =>
        rw[hc]at e2 ih1 ih2
        simp only[if_true]at ih1 ih2
        exact⟨fun hr=>by obtain⟨a,b,c,hq⟩:=ih1 hr; exact⟨a,b,c,Tu1 base R n size to i xf xt xs _ hbl hl hi h1 h0 e1 e2 b1 b2 b3 b4 q1 q2 c2 hq⟩,fun hr=>Tu1 base R n size to i xf xt xs _ hbl hl hi h1 h0 e1 e2 b1 b2 b3 b4 q1 q2 c2 (ih2 hr)⟩
       | false =>
        rw[hc]at e2 ih1 ih2
        simp only[Bool.false_eq_true,if_false]at ih1 ih2
        exact⟨fun hr=>by obtain⟨a,b,c,hq⟩:=ih1 hr; exact⟨a,b,c,Tu2 base R n size to i xf xt xs _ hbl hl hi h1 h0 e1 e2 b1 b2 b3 b4 q1 q2 c2 hq⟩,fun hr=>Tu2 base R n size to i xf xt xs _ hbl hl hi h1 h0 e1 e2 b1 b2 b3 b4 q1 q2 c2 (ih2 hr)⟩
     · rw[decide_eq_false c2,Bool.false_and]
       refine⟨fun h=>by simp at h,fun _=> ?_⟩
       cases hc:cpE ⟨xf,xt,xs⟩with
       | true=>rw[hc]at e2; exact T1q base R n size to i xf xt xs hbl hl hi h1 h0 e1 e2 b1 b2 b3 b4 q1 q2 c2
       | false=>rw[hc]at e2; exact T1r base R n size to i xf xt xs hbl hl hi h1 h0 e1 e2 b1 b2 b3 b4 q1 q2 c2
  · obtain⟨yf,yt,ys⟩:=y
    simp only[Ch.pv]at hy hcy
    rw[hv]at e1 hw ⊢
    simp only[Option.isSome_some,Option.getD_some]at e1 hw ⊢
    generalize cpE ⟨yf,yt,ys⟩=cy at *
    cases he:elemF ⟨xf,xt,xs⟩ base to true cy with
    | false =>
     rw[he]at e1
     exact⟨fun h=>by simp at h,fun _=>T28 base R n size to i xf xt xs hbl hl hi h1 cy _ _ _ hy h0 hcy e1⟩
    | true =>
     rw[he]at e1
     obtain⟨b1,b2,b3,b4⟩:=hw he
     rw[Bool.true_and]
     by_cases c2:size+ (xt-xf+xs.size)≤20000
     · rw[decide_eq_true c2,Bool.true_and]
       obtain⟨ih1,ih2⟩:=ih (by omega) c2 (by split<;> omega)
       cases hc:cpE ⟨xf,xt,xs⟩with
       | true =>
        rw[hc]at e2 ih1 ih2
        simp only[if_true]at ih1 ih2
        exact⟨fun hr=>by obtain⟨a,b,c,hq⟩:=ih1 hr; exact⟨a,b,c,Tu3 base R n size to i xf xt xs _ hbl hl hi h1 cy _ _ _ hy h0 hcy e1 e2 b1 b2 b3 b4 q1 q2 c2 hq⟩,fun hr=>Tu3 base R n size to i xf xt xs _ hbl hl hi h1 cy _ _ _ hy h0 hcy e1 e2 b1 b2 b3 b4 q1 q2 c2 (ih2 hr)⟩
       | false =>
        rw[hc]at e2 ih1 ih2
        simp only[Bool.false_eq_true,if_false]at ih1 ih2
        exact⟨fun hr=>by obtain⟨a,b,c,hq⟩:=ih1 hr; exact⟨a,b,c,Tu4 base R n size to i xf xt xs _ hbl hl hi h1 cy _ _ _ hy h0 hcy e1 e2 b1 b2 b3 b4 q1 q2 c2 hq⟩,fun hr=>Tu4 base R n size to i xf xt xs _ hbl hl hi h1 cy _ _ _ hy h0 hcy e1 e2 b1 b2 b3 b4 q1 q2 c2 (ih2 hr)⟩
     · rw[decide_eq_false c2,Bool.false_and]
       refine⟨fun h=>by simp at h,fun _=> ?_⟩
       cases hc:cpE ⟨xf,xt,xs⟩with
       | true=>rw[hc]at e2; exact T1s base R n size to i xf xt xs hbl hl hi h1 cy _ _ _ hy h0 hcy e1 e2 b1 b2 b3 b4 q1 q2 c2
       | false=>rw[hc]at e2; exact T1t base R n size to i xf xt xs hbl hl hi h1 cy _ _ _ hy h0 hcy e1 e2 b1 b2 b3 b4 q1 q2 c2
theorem runIs (base:Int) (l:List Ch) (hl:l.length≤9223372036854775807) (hs:∀ x∈l,x.s.size<1099511627776):Run (EX cp) 130 [.st [pi base,.sl 3 (chs l)]]=some (.val (pb (isD base l))):=by
 have hbl:=Tb3 l
 rw[Tah _ A_delta_Is _ rfl rfl rfl]
 unfold isD
 by_cases c1:0≤base
 · by_cases c2:base≤20000
   · by_cases c3:l.length≤60
     · obtain⟨h1,h2⟩:=Tu5 (cp:=cp) base l c2 c3 hs l.length 0 0 0 (by omega) (by omega) (by omega) (by omega)
       rw[List.drop_zero,show prv l 0=none from rfl]at h1 h2
       unfold dS dX at h2
       unfold dS at h1
       rw[show((0:Nat):Int)=0 from rfl]at h1 h2
       cases hr:isL base l 0 0 none with
       | true =>
        obtain⟨a,b,c,h⟩:=h1 hr
        simp(disch:=omega)[A_delta_Is,hbl,c1,c2,c3,h,Taa,Tab]
       | false =>
        have h:=h2 hr
        simp(disch:=omega)[A_delta_Is,hbl,c1,c2,c3,h,Taa,Tab]
     · simp(disch:=omega)[A_delta_Is,hbl,c1,c2,c3,Taa,Tab]
   · simp(disch:=omega)[A_delta_Is,c1,c2,Taa,Tab]
 · simp(disch:=omega)[A_delta_Is,c1,Taa,Tab]
def loR (r:Int×Int):Int:=min r.1 r.2
def hiR (r:Int×Int):Int:=max r.1 r.2
theorem runSpan (r:Int×Int):Run (EX cp) 121 [.st (cutV r)]=some (.val (.st [pi (loR r),pi (hiR r)])):=by
 obtain⟨a,c⟩:=r
 rw[Tah _ A_region_Span _ rfl rfl rfl]
 have h1: (if c<a then c else a)=min a c:=by omega
 have h2: (if a<c then c else a)=max a c:=by omega
 simp[A_region_Span,cutV,h1,h2,loR,hiR]
def ivB (n:Int)(f t:Int):Bool:=decide (0≤f)&&decide (f≤t)&&decide (t≤n)
theorem runIvIs (f t n:Int):Run (EX cp) 133 [.st [pi f,pi t],pi n]=some (.val (pb (ivB n f t))):=by
 rw[Tah _ A_interval_Is _ rfl rfl rfl]
 unfold ivB
 by_cases c1:0≤f
 · by_cases c2:f≤t
   · simp(disch:=omega)[A_interval_Is,c1,c2,Taa,Tab]
   · simp(disch:=omega)[A_interval_Is,c1,c2,Taa,Tab]
 · simp(disch:=omega)[A_interval_Is,c1,Taa,Tab]
theorem runTouch (a b c d:Int):Run (EX cp) 187 [.st [pi a,pi b],.st [pi c,pi d]]=some (.val (pb (decide (c≤b)&&decide (a≤d)))):=by
 rw[Tah _ A_interval_Touch _ rfl rfl rfl]
 by_cases c1:c≤b
 · simp(disch:=omega)[A_interval_Touch,c1,Taa,Tab]
 · simp(disch:=omega)[A_interval_Touch,c1,Taa,Tab]
theorem runCountR (l:List (Int×Int)):Run (EX cp) 134 [.sl 2 (cutsL l)]=some (.val (pi (if l.length=0 then 12 else if 8<l.length then 70 else 0))):=by
 have hl: (cutsL l).length=l.length:=by simp[cutsL]
 rw[Tah _ A_region_count _ rfl rfl rfl]
 by_cases c1:l.length=0
 · simp(disch:=omega)[A_region_count,hl,c1,Taa,Tab]
 · by_cases c2:8<l.length
   · have c2': (8:Int)<l.length:=by omega
     simp(disch:=omega)[A_region_count,hl,c1,c2,c2',Taa,Tab]
   · have c2':¬ (8:Int)<l.length:=by omega
     simp(disch:=omega)[A_region_count,hl,c1,c2,c2',Taa,Tab]
def insB (n:Int)(r:Int×Int):Bool:=ivB n (loR r) (hiR r)
theorem runInside1 (s:ByteArray)(r:Int×Int):Run (EX cp) 191 [.st (cutV r),.pt [.sc (.string s)]]=some (.val (pb (insB s.size r))):=by
 have h1:=runSpan (cp:=cp) r
 have h2:=runIvIs (cp:=cp) (loR r) (hiR r) s.size
 rw[Tah _ A_region_inside_1 _ rfl rfl rfl]
 simp only[cutV]at h1 ⊢
 simp[A_region_inside_1,h1,h2,insB]
theorem runMove1 (base:Int)(l:List (List PV))(r:Int×Int):Run (EX cp) 132 [.st (cutV r),.pt [pi base,.sl 3 l]]=some (.val (pb (insB base r))):=by
 have h1:=runSpan (cp:=cp) r
 have h2:=runIvIs (cp:=cp) (loR r) (hiR r) base
 rw[Tah _ A_region_Move_1 _ rfl rfl rfl]
 simp only[cutV]at h1 ⊢
 simp[A_region_Move_1,h1,h2,insB]
def edgR (s:ByteArray)(r:Int×Int):Bool:=edge s r.1&&edge s r.2
theorem runEdges1 (s:ByteArray)(hs:s.size<1099511627776)(r:Int×Int):Run (EX cp) 192 [.st (cutV r),.pt [.sc (.string s)]]=some (.val (pb (edgR s r))):=by
 have h1:=utfIsEdge (cp:=cp) s r.1 hs
 have h2:=utfIsEdge (cp:=cp) s r.2 hs
 rw[Tah _ A_region_edges_1 _ rfl rfl rfl]
 unfold edgR
 simp only[cutV]
 cases c:edge s r.1<;> rw[c]at h1<;> simp[A_region_edges_1,h1,h2]
theorem Th9 (l:List (List PV))(fid:FuncId)(cs:List PV)(p:List PV→Bool)(hl:l.length≤9223372036854775807)(hp:∀ c∈l,c.length=2∧Run (EX cp) fid (.st c::cs)=some (.val (pb (p c)))):∀(m i:Nat),m+i=l.length →
 Code (EX cp) L_slices_IndexFunc_api_Region_api_Region_0 ⟨[(0,.p (.sl 2 l)),(1,.p (.fn fid cs)),(7,.p (pi l.length)),(8,.p (pi i))],[]⟩ =
  some (match (l.drop i).findIdx? p with
   | some j=> (.ret,⟨[(4,.p (pi ((i+j:Nat):Int)))],[]⟩)
   | none=> (.ex 0,⟨[(0,.p (.sl 2 l)),(1,.p (.fn fid cs)),(7,.p (pi l.length)),(8,.p (pi l.length)),(9,.p (pb false))],[]⟩)):=by
 intro m
 induction m with
 | zero =>
  intro i hi
  have:i=l.length:=by omega
  subst this
  rw[L_slices_IndexFunc_api_Region_api_Region_0,Tae]
  simp
 | succ m ih =>
  intro i hi
  have hlt:i<l.length:=by omega
  obtain⟨h2,hr⟩:=hp l[i] (List.getElem_mem hlt)
  have hg:l[i]?=some l[i]:=List.getElem?_eq_getElem hlt
  rw[List.drop_eq_getElem_cons hlt,List.findIdx?_cons]
  generalize hge:l[i]=c at *
  have htk:c.take 2=c:=List.take_of_length_le (by omega)
  cases hpc:p c with
  | true =>
   rw[hpc]at hr
   rw[L_slices_IndexFunc_api_Region_api_Region_0,Tae]
   simp(disch:=omega)[Taa,hlt,hg,hge,hr,h2,htk,Taj]
  | false =>
   have ih':=ih (i+1) (by omega)
   rw[hpc]at hr
   have e: (some (match (if(false:Bool)=true then some 0 else Option.map (fun i=>i+1) ((l.drop (i+1)).findIdx? p))with
    | some j=> (Out.ret,(⟨[(4,.p (pi ((i+j:Nat):Int)))],[]⟩:St))
    | none=> (.ex 0,⟨[(0,.p (.sl 2 l)),(1,.p (.fn fid cs)),(7,.p (pi l.length)),(8,.p (pi l.length)),(9,.p (pb false))],[]⟩)))=Code (EX cp) L_slices_IndexFunc_api_Region_api_Region_0 ⟨[(0,.p (.sl 2 l)),(1,.p (.fn fid cs)),(7,.p (pi l.length)),(8,.p (pi ((i+1:Nat):Int)))],[]⟩:=by
    rw[ih']
    cases(l.drop (i+1)).findIdx? p with
    | none=>rfl
    | some j=>simp; omega
   rw[e]
   conv=>lhs; rw[L_slices_IndexFunc_api_Region_api_Region_0,Tae]
   simp(disch:=omega)[Taa,hlt,hg,hge,hr,h2,htk,Taj,Tac]
   rw[L_slices_IndexFunc_api_Region_api_Region_0]
theorem containsFuncR (l:List (List PV))(fid:FuncId)(cs:List PV)(p:List PV→Bool)(hl:l.length≤9223372036854775807)(hp:∀ c∈l,c.length=2∧Run (EX cp) fid (.st c::cs)=some (.val (pb (p c)))) :
 Run (EX cp) 178 [.sl 2 l,.fn fid cs]=some (.val (pb (l.any p))):=by
 have h:=Th9 l fid cs p hl hp l.length 0 (by omega)
 have hi:Run (EX cp) 213 [.sl 2 l,.fn fid cs]=some (.val (pi (match l.findIdx? p with | some j=> (j:Int) | none=> -1))):=by
  rw[Tah _ A_slices_IndexFunc_api_Region_api_Region _ rfl rfl rfl]
  simp only[List.drop_zero,Nat.zero_add,Int.ofNat_zero,Int.natCast_zero]at h
  cases hf:l.findIdx? p<;> rw[hf]at h<;> simp[A_slices_IndexFunc_api_Region_api_Region,h]
 rw[Tah _ A_slices_ContainsFunc_api_Region_api_Region _ rfl rfl rfl]
 simp[A_slices_ContainsFunc_api_Region_api_Region,hi]
 cases hf:l.findIdx? p with
 | none =>
  rw[List.findIdx?_eq_none_iff]at hf
  simp
  intro c hc
  simpa using hf c hc
 | some j =>
  obtain⟨h1,h2,_⟩:=List.findIdx?_eq_some_iff_getElem.1 hf
  simp
  exact⟨_,List.getElem_mem h1,h2⟩
theorem runEvery1 (r:Int×Int)(fid:FuncId)(cs:List PV)(b:Bool)(h:Run (EX cp) fid (.st (cutV r)::cs)=some (.val (pb b))):Run (EX cp) 179 [.st (cutV r),.pt [.fn fid cs]]=some (.val (pb (!b))):=by
 rw[Tah _ A_region_every_api_Region_1 _ rfl rfl rfl]
 simp only[cutV]at h ⊢
 simp[A_region_every_api_Region_1,h]
theorem runEvery (l:List (Int×Int))(hl:l.length≤9223372036854775807)(fid:FuncId)(cs:List PV)(p:Int×Int→Bool)(hp:∀ r∈l,Run (EX cp) fid (.st (cutV r)::cs)=some (.val (pb (p r)))):Run (EX cp) 131 [.sl 2 (cutsL l),.fn fid cs]=some (.val (pb (l.all p))):=by
 have h:=containsFuncR (cp:=cp) (cutsL l) 179 [.pt [.fn fid cs]] (fun c=>match c with | [.sc (.int .i64 a),.sc (.int .i64 b)]=> !p (a,b) | _=>false) (by simpa[cutsL]using hl) (fun c hc=>by
  obtain⟨r,hr,rfl⟩:=List.mem_map.1 hc
  exact⟨rfl,runEvery1 r fid cs (p r) (hp r hr)⟩)
 have e: (cutsL l).any (fun c=>match c with | [.sc (.int .i64 a),.sc (.int .i64 b)]=> !p (a,b) | _=>false)= !(l.all p):=by
  clear h hp hl
  induction l with
  | nil=>rfl
  | cons r l ih =>
   show(!p r|| (cutsL l).any _)= !(p r&&l.all p)
   rw[ih]
   cases p r<;> simp
 rw[e]at h
 rw[Tah _ A_region_every_api_Region _ rfl rfl rfl]
 simp[A_region_every_api_Region,h]
def apB:List (Int×Int)→Bool
 | a::b::l=>decide (hiR a<loR b)&&apB (b::l)
 | _=>true
theorem Tu6:∀(l:List (Int×Int)) (i:Nat) (h:i+1<l.length),apB l=true→hiR l[i]<loR l[i+1]
 | a::b::l,0,h,hl=>by
  rw[apB,Bool.and_eq_true,decide_eq_true_eq]at hl
  exact hl.1
 | a::b::l,i+1,h,hl=>by
  rw[apB,Bool.and_eq_true]at hl
  exact Tu6 (b::l) i (by simpa using h) hl.2
 | [a],i,h,_=>by simp at h
 | [],i,h,_=>by simp at h
def selB (s:ByteArray)(l:List (Int×Int)):Bool:=decide (1≤l.length)&&decide (l.length≤8)&&l.all (insB s.size)&&l.all (edgR s)&&apB l
theorem Txy (l:List (Int×Int))(i:Nat)(h:i+1<l.length):apB (l.drop i)= (decide (hiR l[i]<loR l[i+1])&&apB (l.drop (i+1))):=by
 rw[List.drop_eq_getElem_cons (by omega),List.drop_eq_getElem_cons h,apB,← List.drop_eq_getElem_cons h]
set_option maxHeartbeats 4000000 in
theorem Tjg (l:List (Int×Int))(hl:l.length≤8):∀(m i:Nat),m+i+1=l.length →
 (apB (l.drop i)=true→Code (EX cp) L_region_Is_0 ⟨[(0,.p (.sl 2 (cutsL l))),(5,.p (pi (i+1:Nat)))],[]⟩=some (.ex 0,⟨[(0,.p (.sl 2 (cutsL l))),(5,.p (pi l.length)),(31,.p (pb false))],[]⟩)) ∧
 (apB (l.drop i)=false→Code (EX cp) L_region_Is_0 ⟨[(0,.p (.sl 2 (cutsL l))),(5,.p (pi (i+1:Nat)))],[]⟩=some (.ret,⟨[(4,.p (pb false))],[]⟩))
 | 0,i,hm=>by
  obtain⟨a,ha⟩:∃ a,l.drop i= [a]:=by
   rw[List.drop_eq_getElem_cons (by omega),List.drop_eq_nil_of_le (by omega)]; exact⟨_,rfl⟩
  have hbl: (cutsL l).length=l.length:=by simp[cutsL]
  rw[ha]
  refine⟨fun _=> ?_,fun h=>by simp[apB]at h⟩
  rw[L_region_Is_0,Tae,show i+1=l.length by omega]
  generalize cutsL l=R at *
  generalize l.length=z at *
  simp(disch:=omega)[hbl,Tab,-getElem?_pos]
 | m+1,i,hm=>by
  have hi:i+1<l.length:=by omega
  have h1:=Tcc l i (by omega)
  have h2:=Tcc l (i+1) hi
  have s1:=runSpan (cp:=cp) l[i]
  have s2:=runSpan (cp:=cp) l[i+1]
  have hbl: (cutsL l).length=l.length:=by simp[cutsL]
  obtain⟨ih1,ih2⟩:=Tjg l hl m (i+1) (by omega)
  rw[Txy l i hi,L_region_Is_0,Tae]
  rw[L_region_Is_0]at ih1 ih2
  rw[show((i+1+1:Nat):Int)= (i:Int)+1+1 by omega]at ih1 ih2
  rw[show((i+1:Nat):Int)= (i:Int)+1 by omega]
  simp only[cutV]at s1 s2
  have e1: ((i:Int)+1).toNat=i+1:=by omega
  have e0: (0:Int)≤ (i:Int)+1:=by omega
  generalize apB (l.drop (i+1))=rest at *
  generalize loR l[i+1]=y1 at *
  generalize hiR l[i+1]=y2 at *
  generalize loR l[i]=x1 at *
  generalize hiR l[i]=x2 at *
  generalize l[i]=p at *
  generalize l[i+1]=q at *
  generalize cutsL l=R at *
  generalize l.length=z at *
  by_cases c:x2<y1
  · rw[decide_eq_true c,Bool.true_and]
    refine⟨fun hr=> ?_,fun hr=> ?_⟩
    · rw[← ih1 hr]
      simp(disch:=omega)[h1,h2,s1,s2,hbl,hi,c,e1,e0,Taa,Tab,Tac,-getElem?_pos]
    · rw[← ih2 hr]
      simp(disch:=omega)[h1,h2,s1,s2,hbl,hi,c,e1,e0,Taa,Tab,Tac,-getElem?_pos]
  · rw[decide_eq_false c,Bool.false_and]
    refine⟨fun hr=>by simp at hr,fun _=> ?_⟩
    simp(disch:=omega)[h1,h2,s1,s2,hbl,hi,c,e1,e0,Taa,Tab,Tac,-getElem?_pos]
end Go.Proofs.YtjpibniecllafaaGreat.AM
end
