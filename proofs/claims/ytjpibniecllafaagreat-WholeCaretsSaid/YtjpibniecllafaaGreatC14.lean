/- Made by pack.py: more of it. No condition but what each says. -/
import Derived.Test.YtjpibniecllafaaGreatC13
import Derived.Test.YtjpibniecllafaaGreatC10
set_option linter.unusedSimpArgs false
set_option linter.unusedVariables false
set_option maxHeartbeats 16000000
section
namespace Go.Proofs.YtjpibniecllafaaGreat.AM
open Go Go.Proofs.YtjpibniecllafaaGreat.U
theorem Tex {a:UInt8}{t:List UInt8}(h:valid (a::t)=true):¬ cont a:=by
 intro hc
 rw[Tcf (To7 hc t)]at h; simp at h
theorem four (l:List UInt8):∀ i,i+4<=l.length->valid l=true->∃ j,j<=3/\∀ b,l[i+j]?=some b->¬ cont b:=by
 induction l using along with
 | h0=>intro i h _; simp at h
 | h1 a t h0 _=>intro i _ hv; rw[Tcf h0]at hv; simp at hv
 | h2 v r hv ih =>
  intro i hi hval
  rw[Tbk hv]at hval
  obtain⟨a,t,he,ha,ht⟩:=Thz v hv
  have hl:=Tb7 v
  rw[List.length_append]at hi
  by_cases c0:i=0
  · subst c0
    refine⟨0,by omega,fun b hb=> ?_⟩
    rw[he]at hb
    simp only[List.cons_append,Nat.add_zero,List.getElem?_cons_zero,oIE]at hb
    rw[← hb]; exact ha
  · by_cases c1:i< (enc v).length
    · refine⟨(enc v).length-i,by omega,fun b hb=> ?_⟩
      rw[show i+ ((enc v).length-i)= (enc v).length by omega,List.getElem?_append_right (Nat.le_refl _),Nat.sub_self]at hb
      cases r with
      | nil=>simp at hb
      | cons c r =>
       simp only[List.getElem?_cons_zero,oIE]at hb
       rw[← hb]; exact Tex hval
    · obtain⟨j,h1,h2⟩:=ih (i- (enc v).length) (by omega) hval
      refine⟨j,h1,fun b hb=>h2 b ?_⟩
      rw[List.getElem?_append_right (by omega)]at hb
      rw[← hb]; congr 1; omega
theorem Tvg (l:List UInt8):∀ i,i<=l.length-> (∀ b,l[i]?=some b->¬ cont b)->valid l=true->valid (l.take i)=true/\valid (l.drop i)=true:=by
 induction l using along with
 | h0=>intro i h _ _; simp[Ta0]
 | h1 a t h0 _=>intro i _ _ hv; rw[Tcf h0]at hv; simp at hv
 | h2 v r hv ih =>
  intro i hi hb hval
  rw[Tbk hv]at hval
  obtain⟨a,t,he,ha,ht⟩:=Thz v hv
  by_cases c0:i=0
  · subst c0
    rw[List.take_zero,List.drop_zero,Tbk hv]
    exact⟨Ta0,hval⟩
  · by_cases c1:i< (enc v).length
    · exfalso
      have h1:i< (enc v++r).length:=by rw[List.length_append]; omega
      have h2:=hb _ (List.getElem?_eq_getElem h1)
      rw[List.getElem_append_left c1]at h2
      have h3: (enc v)[i]∈t:=by
       have: (enc v)[i]?=some (enc v)[i]:=List.getElem?_eq_getElem c1
       obtain⟨k,rfl⟩:∃ k,i=k+1:= ⟨i-1,by omega⟩
       have e:=congrArg (·[k+1]?) he
       simp only[List.getElem?_cons_succ]at e
       rw[e]at this
       exact List.mem_of_getElem? this
      exact h2 (ht _ h3)
    · rw[List.length_append]at hi
      obtain⟨p,q⟩:=ih (i- (enc v).length) (by omega) (fun b hb2=>hb b (by
       rw[List.getElem?_append_right (by omega)]; exact hb2)) hval
      rw[List.take_append,List.drop_append,List.take_of_length_le (by omega),List.drop_eq_nil_of_le (by omega),List.nil_append,Tbk hv]
      exact⟨p,q⟩
def Adj:List ByteArray->Prop
 | x::y::l=>64<x.size+y.size/\Adj (y::l)
 | _=>True
structure okP (l:List ByteArray):Prop where
 val:∀ x∈l,valid (L x)=true/\1<=x.size/\x.size<=64
 adj:Adj l
theorem Tvh:okP []:= ⟨by simp,trivial⟩
theorem T2n (x:ByteArray)(h:valid (L x)=true)(h1:1<=x.size)(h2:x.size<=64):okP [x]:= ⟨by simpa using⟨h,h1,h2⟩,trivial⟩
theorem Adj.tail:∀ {x:ByteArray} {l:List ByteArray},Adj (x::l)->Adj l
 | _,[],_=>trivial
 | _,_::_,h=>h.2
theorem Adj.drop:∀(i:Nat) {l:List ByteArray},Adj l->Adj (l.drop i)
 | 0,_,h=>h
 | _+1,[],_=>trivial
 | i+1,_::_,h=>Adj.drop i h.tail
theorem Adj.take:∀(i:Nat) {l:List ByteArray},Adj l->Adj (l.take i)
 | 0,_,_=>trivial
 | _+1,[],_=>trivial
 | _+1,[x],_=>by rw[List.take_succ_cons,List.take_nil]; trivial
 | 1,_::_::_,_=>trivial
 | i+2,x::y::l,h=>by
  have:=Adj.take (i+1) h.2
  rw[List.take_succ_cons]at this ⊢
  rw[List.take_succ_cons]
  exact⟨h.1,this⟩
theorem Adj.append:∀ {a b:List ByteArray},Adj a->Adj b-> (∀ x∈a.getLast?,∀ y∈b.head?,64<x.size+y.size)->Adj (a++b)
 | [],_,_,hb,_=>hb
 | [x],[],_,_,_=>trivial
 | [x],y::l,_,hb,h=> ⟨h x (by simp) y (by simp),hb⟩
 | x::y::l,b,ha,hb,h=> ⟨ha.1,Adj.append ha.2 hb (fun z hz w hw=>h z (by rw[List.getLast?_cons_cons]; exact hz) w hw)⟩
theorem okP.drop {l:List ByteArray}(h:okP l)(i:Nat):okP (l.drop i):= ⟨fun x hx=>h.val x (List.mem_of_mem_drop hx),h.adj.drop i⟩
theorem okP.take {l:List ByteArray}(h:okP l)(i:Nat):okP (l.take i):= ⟨fun x hx=>h.val x (List.mem_of_mem_take hx),h.adj.take i⟩
theorem okP.append {a b:List ByteArray}(ha:okP a)(hb:okP b)(h:∀ x∈a.getLast?,∀ y∈b.head?,64<x.size+y.size):okP (a++b) :=
 ⟨fun x hx=>by
  rcases List.mem_append.1 hx with hx | hx
  · exact ha.val x hx
  · exact hb.val x hx,ha.adj.append hb.adj h⟩
theorem okP.count:∀(n:Nat) (l:List ByteArray),l.length<=n->okP l->l.length*65<=2* (flat l).length+65
 | _,[],_,_=>by simp
 | _,[x],_,h=>by simp
 | 0,x::y::l,hn,_=>by simp at hn
 | n+1,x::y::l,hn,h=>by
  have ih:=okP.count n l (by simp at hn; omega) (by have:=h.drop 2; simpa using this)
  have h1:=h.adj.1
  rw[Tbo,Tbo]
  simp only[List.length_append,L_len,List.length_cons]
  omega
theorem okP.len {l:List ByteArray}(h:okP l):l.length<= (flat l).length:=by
 have:∀ l:List ByteArray,(∀ x∈l,1<=x.size)->l.length<= (flat l).length:=by
  intro l
  induction l with
  | nil=>intro _; simp
  | cons x l ih =>
   intro h
   have h1:=h x (by simp)
   have h2:=ih fun y hy=>h y (by simp[hy])
   rw[Tbo,List.length_append,List.length_cons,L_len]; omega
 exact this l fun x hx=> (h.val x hx).2.1
def backN (s:List UInt8):Nat->Nat
 | 0=>0
 | n+1=>match s[n+1]? with
  | some b=>if cont b then backN s n else n+1
  | none=>n+1
theorem Tp4 (s:List UInt8):∀ n,backN s n<=n
 | 0=>Nat.le_refl _
 | n+1=>by
  rw[backN]
  split
  · split
    · have:=Tp4 s n; omega
    · exact Nat.le_refl _
  · exact Nat.le_refl _
theorem Tp5 (s:List UInt8)(hv:valid s=true):∀ n,∀ b,s[backN s n]?=some b->¬ cont b
 | 0=>fun b hb=>by
  rw[backN]at hb
  cases s with
  | nil=>simp at hb
  | cons a t =>
   simp only[List.getElem?_cons_zero,oIE]at hb
   rw[← hb]; exact Tex hv
 | n+1=>fun b hb=>by
  have ih:=Tp5 s hv n
  rw[backN]at hb
  split at hb
  · rename_i c hc
    split at hb
    · exact ih b hb
    · rw[hc]at hb; obtain rfl:=oIj hb; assumption
  · rename_i hc; rw[hc]at hb; simp at hb
theorem Tyv (s:List UInt8)(hv:valid s=true)(n:Nat)(h3:3<=n)(hn:n<s.length):n-3<=backN s n:=by
 obtain⟨j,h1,h2⟩:=four s (n-3) (by omega) hv
 have key:∀ m,n-3+j<=m->m<s.length->n-3+j<=backN s m:=by
  intro m
  induction m with
  | zero=>intro h _; omega
  | succ m ih =>
   intro h hm
   rw[backN,List.getElem?_eq_getElem hm]
   dsimp only
   split
   · rename_i hc
     by_cases c:n-3+j=m+1
     · exact absurd hc (h2 _ (by rw[c]; exact List.getElem?_eq_getElem hm))
     · exact ih (by omega) (by omega)
   · omega
 have:=key n (by omega) hn
 omega
end Go.Proofs.YtjpibniecllafaaGreat.AM
end
section
namespace Go.Proofs.YtjpibniecllafaaGreat.AM
open Go Go.Proofs.YtjpibniecllafaaGreat.U
variable {cp:List PV->Option Ret}
theorem T4b (s:ByteArray)(i:Nat)(h:i<s.size)(hv:valid ((L s).drop i)=true):sizeAt s i≠0/\sc (decAt s i).2/\points ((L s).drop i)= (decAt s i).2::points ((L s).drop (i+sizeAt s i))/\valid ((L s).drop (i+sizeAt s i))=true:=by
 rw[Tgs s i h]at hv
 by_cases c:sizeAt s i=0
 · rw[if_pos c]at hv; simp at hv
 · rw[if_neg c]at hv
   refine⟨c,?_,?_,hv⟩
   · rw[Tbe]; unfold sizeAt at c; rw[Tbe]at c; exact Tts _ c
   · rw[Th0 s i h,if_neg c]
def C4.pv (c:C4):PV:= .st [pi c.1,pi c.2.1,pi c.2.2.1,pi c.2.2.2]
def C4.sm (c:C4):Prop:= (0<=c.1/\c.1<=2199023255552)/\ (0<=c.2.1/\c.2.1<=2199023255552)/\ (0<=c.2.2.1/\c.2.2.1<=2199023255552)/\ (0<=c.2.2.2/\c.2.2.2<=2199023255552)
theorem countUnits (v:Int):Run (EX cp) 282 [pI .i32 v]=some (.val (pi (cu v))):=by
 rw[Tah _ A_count_units _ rfl rfl rfl]
 unfold cu
 by_cases c:65536<=v
 · rw[if_pos c]
   simp(disch:=omega)[A_count_units,Taa,Tad]
 · rw[if_neg c]
   simp(disch:=omega)[A_count_units,Taa,Tad]
theorem countOf1 (v:Int)(h:sc v):Run (EX cp) 281 [pI .i32 v]=some (.val (one4 v).pv):=by
 have h1:=countUnits (cp:=cp) v
 have h2:=Tjh v h
 have h3: (chS v).size= (enc v).length:=Th2 _
 rw[Tah _ A_count_of _ rfl rfl rfl]
 unfold C4.pv one4 cl
 by_cases c:v=10
 · rw[if_pos c]
   simp(disch:=omega)[A_count_of,h1,h2,h3,c,Taa,Tad]
   subst c
   simp[h1,h2,h3]
 · rw[if_neg c]
   simp(disch:=omega)[A_count_of,h1,h2,h3,c,Taa,Tad]
theorem countPlus (a b:C4)(ha:a.sm)(hb:b.sm):Run (EX cp) 280 [a.pv,b.pv]=some (.val (add4 a b).pv):=by
 obtain⟨a1,a2,a3,a4⟩:=ha
 obtain⟨b1,b2,b3,b4⟩:=hb
 rw[Tah _ A_count_Plus _ rfl rfl rfl]
 unfold C4.pv add4
 simp(disch:=omega)[A_count_Plus,Tab]
theorem ropePlus (a b:C4)(ha:a.sm)(hb:b.sm):Run (EX cp) 283 [a.pv,b.pv]=some (.val (add4 a b).pv):=by
 have h:=countPlus (cp:=cp) a b ha hb
 rw[Tah _ A_rope_counts_Plus _ rfl rfl rfl]
 unfold C4.pv at h ⊢
 simp(disch:=omega)[A_rope_counts_Plus,h]
theorem T2o (v:Int): (one4 v).sm:=by
 have h1:=Tb7 v
 have h2:=Tp2 v
 have h3:=Tp3 v
 simp only[C4.sm,one4]
 omega
theorem Tmk (s:ByteArray)(hs:s.size<274877906944):∀(m i:Nat) (us:List Int),s.size<=i+m->i<=s.size->us.length<=i->valid ((L s).drop i)=true ->
 ∃ j,Code (EX cp) L_count_Of_0 ⟨[(2,.mp 2 0 0),(3,.mp 3 0 0),(8,.mp 8 0 0)],[(2,.row 317 4 false [[pi 0,pi 0,pi 0,pi 0]]),(3,.row 317 4 false [[pi (cnt us).1,pi (cnt us).2.1,pi (cnt us).2.2.1,pi (cnt us).2.2.2]]),(8,.it s i)]⟩ =
  some (.ex 0,⟨[(2,.mp 2 0 0),(3,.mp 3 0 0),(8,.mp 8 0 0),(9,.p (.tu [pb false])),(10,.p (pb false))],[(2,.row 317 4 false [[pi 0,pi 0,pi 0,pi 0]]),(3,.row 317 4 false [[pi (cnt (us++points ((L s).drop i))).1,pi (cnt (us++points ((L s).drop i))).2.1,pi (cnt (us++points ((L s).drop i))).2.2.1,pi (cnt (us++points ((L s).drop i))).2.2.2]]),(8,.it s j)]⟩):=by
 intro m
 induction m with
 | zero =>
  intro i us h1 h2 h3 h4
  have:i=s.size:=by omega
  subst this
  refine⟨s.size,?_⟩
  rw[Tbx s _ (Nat.le_refl _),Tba,List.append_nil,L_count_Of_0,Taf]
  simp
 | succ m ih =>
  intro i us h1 h2 h3 h4
  by_cases hlt:i<s.size
  · obtain⟨c,hsc,hn,hv⟩:=T4b s i hlt h4
    have hle:=Td2 s i h2
    have hd:=Tjg s i (by unfold sizeAt at c; rw[Tbe]at c; exact c)
    have e1: (dec ((L s).drop i)).1=sizeAt s i:=by unfold sizeAt; rw[Tbe]
    have e2:dec ((L s).drop i)=decAt s i:= (Tbe s i).symm
    rw[e1,e2]at hd
    have h0:0<= (decAt s i).2:=by unfold sc at hsc; omega
    have h0':max (decAt s i).2 0= (decAt s i).2:=by omega
    have hof:=countOf1 (cp:=cp) _ hsc
    rw[hn]
    generalize hz:sizeAt s i=n at *
    generalize(decAt s i).2=v at *
    obtain⟨j,ih'⟩:=ih (i+n) (us++ [v]) (by omega) (by omega) (by simp; omega) hv
    refine⟨j,?_⟩
    have e:us++v::points ((L s).drop (i+n))= (us++ [v])++points ((L s).drop (i+n)):=by simp
    have hr:=Tmj us
    have hpl:=countPlus (cp:=cp) (cnt us) (one4 v) (by unfold C4.sm; omega) (T2o v)
    rw[← Tyu]at hpl
    unfold C4.pv at hof hpl
    rw[e,← ih',L_count_Of_0,Taf]
    generalize cnt (us++ [v])=q2 at *
    generalize cnt us=q1 at *
    generalize one4 v=q3 at *
    simp(disch:=omega)[hlt,hd,h0',hof,hpl]
  · have:i=s.size:=by omega
    subst this
    refine⟨s.size,?_⟩
    rw[Tbx s _ (Nat.le_refl _),Tba,List.append_nil,L_count_Of_0,Taf]
    simp
theorem countOf (s:ByteArray)(hs:s.size<17179869184):Run (EX cp) 279 [.sc (.string s)]=some (.val (cntS s).pv):=by
 have h1:=utfClean (cp:=cp) s (by omega)
 have e:L (cleanS s)=clean (L s):=L_mk _
 have hcl:=Tkf (L s)
 rw[L_len,← e,L_len]at hcl
 obtain⟨j,h2⟩:=Tmk (cp:=cp) (cleanS s) (by omega) (cleanS s).size 0 [] (by omega) (by omega) (by simp) (by rw[List.drop_zero,e]; exact Tdr _)
 rw[List.nil_append,List.drop_zero,e,show points (clean (L s))=points (L s)from Td0 _ (Tcs _)]at h2
 have e0:cnt []= (0,0,0,0):=rfl
 rw[e0]at h2
 rw[Tah _ A_count_Of _ rfl rfl rfl]
 unfold C4.pv cntS
 generalize cnt (points (L s))=q at *
 simp(disch:=omega)[A_count_Of,h1,h2]
theorem ropeSum1 (s:ByteArray)(hs:s.size<17179869184):Run (EX cp) 278 [.sc (.string s)]=some (.val (cntS s).pv):=by
 have h:=countOf (cp:=cp) s hs
 rw[Tah _ A_rope_piece_Sum _ rfl rfl rfl]
 unfold C4.pv at h ⊢
 simp(disch:=omega)[A_rope_piece_Sum,h]
def ones (l:List PV):List (List PV):=l.map fun x=> [x]
@[simp] theorem Tg0 (l:List PV): (ones l).length=l.length:=by simp[ones]
@[simp] theorem Tp6:ones []= []:=rfl
theorem T2p (l:List PV)(n:Nat)(h:n<l.length): (ones l)[n]?=some [l[n]]:=by simp[ones,List.getElem?_eq_getElem h]
theorem Tvi (l:List PV)(k:Nat): (ones l).take k=ones (l.take k):=by simp[ones,List.map_take]
theorem Tvj (l:List PV)(k:Nat): (ones l).drop k=ones (l.drop k):=by simp[ones,List.map_drop]
theorem Tml (l:List PV)(x:PV):ones l++ [[x]]=ones (l++ [x]):=by simp[ones]
theorem Trz (l:List ByteArray)(k:Nat): (strs l).take k=strs (l.take k):=by simp[strs,List.map_take]
theorem Tr0 (l:List ByteArray)(k:Nat): (strs l).drop k=strs (l.drop k):=by simp[strs,List.map_drop]
def nodeC (ks:List PV)(its:List ByteArray)(n d:Nat)(c:C4):List PV:= [.sl 1 (ones ks),.sl 1 (strs its),pi n,pi d,pi c.1,pi c.2.1,pi c.2.2.1,pi c.2.2.2]
def Nd:Nat->PV->List ByteArray->Prop
 | 0,x,l=>l≠ []/\x= .pt (nodeC [] l l.length 1 (cntP l))
 | d+1,x,l=>∃ q:List (PV×List ByteArray),2<=q.length/\ (∀ p∈q,Nd d p.1 p.2)/\l= (q.map Prod.snd).flatten/\x= .pt (nodeC (q.map Prod.fst) [] l.length (d+2) (cntP l))
def Bd (l:List ByteArray):Prop:= (flat l).length<1073741824/\l.length<1073741824
theorem Bd.left {a b:List ByteArray}(h:Bd (a++b)):Bd a:=by
 obtain⟨h1,h2⟩:=h
 rw[Tih,List.length_append]at h1
 rw[List.length_append]at h2
 exact⟨by omega,by omega⟩
theorem Bd.right {a b:List ByteArray}(h:Bd (a++b)):Bd b:=by
 obtain⟨h1,h2⟩:=h
 rw[Tih,List.length_append]at h1
 rw[List.length_append]at h2
 exact⟨by omega,by omega⟩
theorem Bd.take {l:List ByteArray}(h:Bd l)(k:Nat):Bd (l.take k):=by
 rw[← List.take_append_drop k l]at h; exact h.left
theorem Bd.drop {l:List ByteArray}(h:Bd l)(k:Nat):Bd (l.drop k):=by
 rw[← List.take_append_drop k l]at h; exact h.right
theorem Bd.sm {l:List ByteArray}(h:Bd l): (cntP l).sm:=by
 have h1:=Trx l
 have h2:=h.1
 unfold C4.sm; omega
theorem Bd.mem {l:List ByteArray}(h:Bd l){x:ByteArray}(hx:x∈l):x.size<1073741824:=by
 obtain⟨a,b,rfl⟩:=List.append_of_mem hx
 have:=h.right.1
 rw[Tbo,List.length_append,L_len]at this; omega
theorem T2q {x:ByteArray}(h:x.size<1073741824): (cntS x).sm:=by
 have:=Tjp x
 unfold C4.sm; omega
theorem Tvk (l:List ByteArray)(x:ByteArray):cntP (l++ [x])=add4 (cntP l) (cntS x):=by
 rw[Tig]; congr 1; rw[cntP,cntP,Tmh]
theorem Nd.shape:∀ {d:Nat} {x:PV} {l:List ByteArray},Nd d x l->∃ ks its,x= .pt (nodeC ks its l.length (d+1) (cntP l))
 | 0,x,l,h=> ⟨_,_,h.2⟩
 | d+1,x,l,⟨q,_,_,_,h⟩=> ⟨_,_,h⟩
theorem Nd.deep:∀ {d:Nat} {x:PV} {l:List ByteArray},Nd d x l->d+1<=l.length
 | 0,x,l,h=>by
  have:=h.1
  cases l with
  | nil=>exact absurd rfl this
  | cons a l=>simp
 | d+1,x,l,⟨q,h1,h2,h3,h4⟩=>by
  subst h3
  match q,h1,h2 with
  | a::b::q,_,h2 =>
   have e1:=Nd.deep (h2 a (by simp))
   have e2:=Nd.deep (h2 b (by simp))
   simp only[List.map_cons,List.flatten_cons,List.length_append]; omega
theorem Nd.ne {d:Nat}{x:PV}{l:List ByteArray}(h:Nd d x l):l≠ []:=fun e=>by
 have:=h.deep; rw[e]at this; simp at this
theorem Tvl (l:List ByteArray)(hb:Bd l)(n:Nat)(its:List (List PV)):∀(m i:Nat),m+i=l.length ->
 Code (EX cp) L_tree_leaf_rope_piece_rope_counts_0 ⟨[(3,.mp 3 0 0),(11,.p (.sl 1 (strs l))),(12,.p (pi l.length)),(13,.p (pi i))],[(3,.row 245 8 false [[.sl 1 [],.sl 1 its,pi n,pi 1,pi (cntP (l.take i)).1,pi (cntP (l.take i)).2.1,pi (cntP (l.take i)).2.2.1,pi (cntP (l.take i)).2.2.2]])]⟩ =
  some (.ex 0,⟨[(3,.mp 3 0 0),(11,.p (.sl 1 (strs l))),(12,.p (pi l.length)),(13,.p (pi l.length)),(14,.p (pb false))],[(3,.row 245 8 false [[.sl 1 [],.sl 1 its,pi n,pi 1,pi (cntP l).1,pi (cntP l).2.1,pi (cntP l).2.2.1,pi (cntP l).2.2.2]])]⟩):=by
 intro m
 induction m with
 | zero =>
  intro i hi
  have:i=l.length:=by omega
  subst this
  rw[List.take_length,L_tree_leaf_rope_piece_rope_counts_0,Taf]
  simp
 | succ m ih =>
  intro i hi
  have h1:i<l.length:=by omega
  have hg:=Tt1 l i h1
  have ih':=ih (i+1) (by omega)
  have hx:=hb.mem (List.getElem_mem h1)
  have d1:=ropeSum1 (cp:=cp) l[i] (by omega)
  have hsn:=Tvk (l.take i) l[i]
  rw[← List.take_succ_eq_append_getElem h1]at hsn
  have d2:=ropePlus (cp:=cp) (cntP (l.take i)) (cntS l[i]) (hb.take i).sm (T2q hx)
  rw[← hsn]at d2
  have hll:=hb.2
  unfold C4.pv at d1 d2
  generalize cntP (l.take (i+1))=c2 at *
  generalize cntP (l.take i)=c1 at *
  generalize l[i]=x at *
  generalize cntS x=c3 at *
  rw[← ih',L_tree_leaf_rope_piece_rope_counts_0,Taf]
  simp(disch:=omega)[h1,hg,d1,d2,Taa,Tad,Tab,Taj,-getElem?_pos]
theorem treeLeaf (l:List ByteArray)(hb:Bd l):Run (EX cp) 210 [.sl 1 (strs l)]=some (.val (.pt (nodeC [] l l.length 1 (cntP l)))):=by
 have h:=Tvl (cp:=cp) l hb l.length (strs l) l.length 0 (by omega)
 rw[List.take_zero,show cntP []= (0,0,0,0)from rfl,show((0:Nat):Int)=0 from rfl]at h
 rw[Tah _ A_tree_leaf_rope_piece_rope_counts _ rfl rfl rfl]
 unfold nodeC
 generalize cntP l=c at *
 simp(disch:=omega)[A_tree_leaf_rope_piece_rope_counts,h]
def its (q:List (PV×List ByteArray)):List ByteArray:= (q.map Prod.snd).flatten
theorem Tyw (q:List (PV×List ByteArray))(p:PV×List ByteArray):its (q++ [p])=its q++p.2:=by simp[its]
theorem Tcj (q r:List (PV×List ByteArray)):its (q++r)=its q++its r:=by simp[its]
theorem Tfj (p:PV×List ByteArray)(q:List (PV×List ByteArray)):its (p::q)=p.2++its q:=by simp[its]
theorem Tzs (q:List (PV×List ByteArray))(i:Nat)(h:i<q.length): (ones (q.map Prod.fst))[i]?=some [q[i].1]:=by
 rw[T2p _ i (by simpa using h)]; simp
theorem Bd.its {q:List (PV×List ByteArray)}(h:Bd (its q))(i:Nat):Bd (AM.its (q.take i)):=by
 rw[← List.take_append_drop i q,Tcj]at h; exact h.left
theorem Tr1 (q:List (PV×List ByteArray))(hb:Bd (its q))(hql:q.length<1073741824)(d:Nat)(D:Int)(hq:∀ p∈q,Nd d p.1 p.2)(ks:List (List PV)):∀(m i:Nat),m+i=q.length ->
 Code (EX cp) L_tree_inner_rope_piece_rope_counts_0 ⟨[(3,.mp 3 0 0),(16,.p (.sl 1 (ones (q.map Prod.fst)))),(17,.p (pi q.length)),(18,.p (pi i))],[(3,.row 245 8 false [[.sl 1 ks,.sl 1 [],pi (its (q.take i)).length,pi D,pi (cntP (its (q.take i))).1,pi (cntP (its (q.take i))).2.1,pi (cntP (its (q.take i))).2.2.1,pi (cntP (its (q.take i))).2.2.2]])]⟩ =
  some (.ex 0,⟨[(3,.mp 3 0 0),(16,.p (.sl 1 (ones (q.map Prod.fst)))),(17,.p (pi q.length)),(18,.p (pi q.length)),(19,.p (pb false))],[(3,.row 245 8 false [[.sl 1 ks,.sl 1 [],pi (its q).length,pi D,pi (cntP (its q)).1,pi (cntP (its q)).2.1,pi (cntP (its q)).2.2.1,pi (cntP (its q)).2.2.2]])]⟩):=by
 intro m
 induction m with
 | zero =>
  intro i hi
  have:i=q.length:=by omega
  subst this
  rw[List.take_length,L_tree_inner_rope_piece_rope_counts_0,Taf]
  simp
 | succ m ih =>
  intro i hi
  have h1:i<q.length:=by omega
  have hg:=Tzs q i h1
  have ih':=ih (i+1) (by omega)
  have hsn:=Tyw (q.take i) q[i]
  rw[← List.take_succ_eq_append_getElem h1]at hsn
  have b2:=hb.its (i+1)
  rw[hsn]at b2
  have d2:=ropePlus (cp:=cp) (cntP (its (q.take i))) (cntP q[i].2) (hb.its i).sm b2.right.sm
  rw[← Tig,← hsn]at d2
  have hln: (its (q.take (i+1))).length= (its (q.take i)).length+q[i].2.length:=by rw[hsn,List.length_append]
  have hlb:=b2.2
  rw[List.length_append]at hlb
  obtain⟨k0,i0,hs⟩:= (hq q[i] (List.getElem_mem h1)).shape
  rw[hs]at hg
  unfold nodeC at hg
  unfold C4.pv at d2
  rw[hln]at ih'
  generalize its (q.take (i+1))=t2 at *
  generalize its (q.take i)=t1 at *
  generalize q[i].2=t3 at *
  generalize cntP t2=c2 at *
  generalize cntP t1=c1 at *
  generalize cntP t3=c3 at *
  rw[← ih',L_tree_inner_rope_piece_rope_counts_0,Taf]
  simp(disch:=omega)[h1,hg,d2,Taa,Tad,Tab,Taj,-getElem?_pos]
theorem treeInner (q:List (PV×List ByteArray))(hb:Bd (its q))(d:Nat)(hq:∀ p∈q,Nd d p.1 p.2)(h1:1<=q.length)(hql:q.length<1073741824) :
 Run (EX cp) 212 [.sl 1 (ones (q.map Prod.fst))]=some (.val (.pt (nodeC (q.map Prod.fst) [] (its q).length (d+2) (cntP (its q))))):=by
 have h:=Tr1 (cp:=cp) q hb hql d ((d:Int)+2) hq (ones (q.map Prod.fst)) q.length 0 (by omega)
 rw[List.take_zero,show its []= []from rfl,show cntP []= (0,0,0,0)from rfl,show((0:Nat):Int)=0 from rfl,show(([]:List ByteArray).length:Int)=0 from rfl]at h
 have hg:=Tzs q 0 (by omega)
 obtain⟨k0,i0,hs⟩:= (hq q[0] (List.getElem_mem (by omega))).shape
 have hdp:= (hq q[0] (List.getElem_mem (by omega))).deep
 have hb0:=hb.its 1
 rw[show q.take 1= [q[0]]from by rw[List.take_one,List.head?_eq_getElem?,List.getElem?_eq_getElem (by omega)]; rfl,Tfj,show its []= []from rfl,List.append_nil]at hb0
 have hb1:=hb0.2
 rw[hs]at hg
 unfold nodeC at hg
 rw[Tah _ A_tree_inner_rope_piece_rope_counts _ rfl rfl rfl]
 unfold nodeC
 have e1:IntKind.wrap .i64 ((d:Int)+1+1)= (d:Int)+2:=by rw[Tab _ (by omega) (by omega)]; omega
 generalize cntP (its q)=c at *
 simp(disch:=omega)[A_tree_inner_rope_piece_rope_counts,hg,e1,h,-getElem?_pos]
end Go.Proofs.YtjpibniecllafaaGreat.AM
end
