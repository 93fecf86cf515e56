/- Made by pack.py: more of it. No condition but what each says. -/
import Derived.Test.YtjpibniecllafaaGreatC16
import Derived.Test.YtjpibniecllafaaGreatC12
import Derived.Test.YtjpibniecllafaaGreatC13
set_option linter.unusedSimpArgs false
set_option linter.unusedVariables false
set_option maxHeartbeats 16000000
section
namespace Go.Proofs.YtjpibniecllafaaGreat.AM
open Go Go.Proofs.YtjpibniecllafaaGreat.U
variable {cp:List PV->Option Ret}
theorem Tvy (base:Int) (l:List Ch) (hb:base<=20000) (hl:l.length<=60) (hs:∀ x∈l,x.s.size<1099511627776):∀(m i:Nat) (size to:Int),m+i=l.length->0<=size->size<=20000->0<=to ->
 (isL base (l.drop i) size to (prv l i)=true->∃ a b c,Code (EX cp) L_delta_Is_0 (dS base (chs l) l.length size to i)=some (.ex 0,⟨[(1,.mp 1 0 0),(3,.p (pi a)),(4,.p (pi b)),(23,.p (.sl 3 (chs l))),(24,.p (pi l.length)),(25,.p (pi l.length)),(26,.p (pb false))],c⟩)) /\
 (isL base (l.drop i) size to (prv l i)=false->Code (EX cp) L_delta_Is_0 (dS base (chs l) l.length size to i)=some (.ret,dX))
 | 0,i,size,to,hm,_,_,_=>by
  obtain rfl:i=l.length:=by omega
  have hbl:=Tcv l
  rw[List.drop_length]
  refine⟨fun _=> ⟨size,to,[(1,.row 131 2 false [[pi base,.sl 3 (chs l)]])],?_⟩,fun h=>by simp[isL]at h⟩
  rw[L_delta_Is_0,Taf]
  unfold dS
  generalize chs l=R at *
  generalize l.length=n at *
  simp(disch:=omega)[Tad,-getElem?_pos]
 | m + 1,i,size,to,hm,q1,q2,q3=>by
  have hi:i<l.length:=by omega
  have h1:=Tdd l i hi
  have hx:=hs _ (List.getElem_mem hi)
  have hp:prv l (i+1)=some (cpE l[i]):=by unfold prv; rw[if_neg (by omega),Nat.add_sub_cancel,List.getElem?_eq_getElem hi]; rfl
  have hbl:=Tcv l
  rw[List.drop_eq_getElem_cons hi,isL]
  have e1:=runElem (cp:=cp) l[i] base to (prv l i).isSome ((prv l i).getD false) hx
  have e2:=runIsCopy (cp:=cp) l[i]
  have ih:=Tvy base l hb hl hs m (i+1) (size+ (l[i].t-l[i].f+l[i].s.size)) (if cpE l[i]=true then l[i].t else to) (by omega)
  rw[hp]at ih
  have hw:elemF l[i] base to (prv l i).isSome ((prv l i).getD false)=true->0<=l[i].f/\l[i].f<=l[i].t/\l[i].t<=20000/\l[i].s.size<=20000:=fun h=>Tp1 h q3 hb
  have hprev: (i=0/\prv l i=none)∨ (0<i/\∃ y:Ch,(chs l)[i-1]?=some y.pv/\prv l i=some (cpE y)/\Run (EX cp) 176 [.st y.pv]=some (.val (pb (cpE y)))):=by
   rcases Nat.eq_zero_or_pos i with h | h
   · exact Or.inl ⟨h,by unfold prv; rw[if_pos h]⟩
   · refine Or.inr ⟨h,l[i-1],Tdd l (i-1) (by omega),?_,runIsCopy l[i-1]⟩
     unfold prv; rw[if_neg (by omega),List.getElem?_eq_getElem (by omega)]; rfl
  generalize l[i]=x at *
  generalize isL base (l.drop (i+1)) _ _ (some (cpE x))=rest at *
  generalize chs l=R at *
  generalize l.length=n at *
  obtain⟨xf,xt,xs⟩:=x
  simp only[Ch.pv]at h1 e1 e2 hw ih ⊢
  rcases hprev with⟨h0,hv⟩ | ⟨h0,y,hy,hv,hcy⟩
  · rw [hv]at e1 hw ⊢
    simp only[Option.isSome_none,Option.getD_none]at e1 hw ⊢
    cases he:elemF ⟨xf,xt,xs⟩ base to false false with
    | false =>
     rw[he]at e1
     exact⟨fun h=>by simp at h,fun _=>T4c base R n size to i xf xt xs hbl hl hi h1 h0 e1⟩
    | true =>
     rw[he]at e1
     obtain⟨b1,b2,b3,b4⟩:=hw he
     rw[Bool.true_and]
     by_cases c2:size+ (xt-xf+xs.size)<=20000
     · rw[decide_eq_true c2,Bool.true_and]
       obtain⟨ih1,ih2⟩:=ih (by omega) c2 (by split<;> omega)
       cases hc:cpE ⟨xf,xt,xs⟩with
       | true =>
        rw[hc]at e2 ih1 ih2
        simp only[if_true]at ih1 ih2
        exact⟨fun hr=>by obtain⟨a,b,c,hq⟩:=ih1 hr; exact⟨a,b,c,Tvu base R n size to i xf xt xs _ hbl hl hi h1 h0 e1 e2 b1 b2 b3 b4 q1 q2 c2 hq⟩,fun hr=>Tvu base R n size to i xf xt xs _ hbl hl hi h1 h0 e1 e2 b1 b2 b3 b4 q1 q2 c2 (ih2 hr)⟩
       | false =>
        rw[hc]at e2 ih1 ih2
        simp only[Bool.false_eq_true,if_false]at ih1 ih2
        exact⟨fun hr=>by obtain⟨a,b,c,hq⟩:=ih1 hr; exact⟨a,b,c,Tvv base R n size to i xf xt xs _ hbl hl hi h1 h0 e1 e2 b1 b2 b3 b4 q1 q2 c2 hq⟩,fun hr=>Tvv base R n size to i xf xt xs _ hbl hl hi h1 h0 e1 e2 b1 b2 b3 b4 q1 q2 c2 (ih2 hr)⟩
     · rw[decide_eq_false c2,Bool.false_and]
       refine⟨fun h=>by simp at h,fun _=> ?_⟩
       cases hc:cpE ⟨xf,xt,xs⟩with
       | true=>rw[hc]at e2; exact T2t base R n size to i xf xt xs hbl hl hi h1 h0 e1 e2 b1 b2 b3 b4 q1 q2 c2
       | false=>rw[hc]at e2; exact T2u base R n size to i xf xt xs hbl hl hi h1 h0 e1 e2 b1 b2 b3 b4 q1 q2 c2
  · obtain⟨yf,yt,ys⟩:=y
    simp only[Ch.pv]at hy hcy
    rw[hv]at e1 hw ⊢
    simp only[Option.isSome_some,Option.getD_some]at e1 hw ⊢
    generalize cpE ⟨yf,yt,ys⟩=cy at *
    cases he:elemF ⟨xf,xt,xs⟩ base to true cy with
    | false =>
     rw[he]at e1
     exact⟨fun h=>by simp at h,fun _=>T4d base R n size to i xf xt xs hbl hl hi h1 cy _ _ _ hy h0 hcy e1⟩
    | true =>
     rw[he]at e1
     obtain⟨b1,b2,b3,b4⟩:=hw he
     rw[Bool.true_and]
     by_cases c2:size+ (xt-xf+xs.size)<=20000
     · rw[decide_eq_true c2,Bool.true_and]
       obtain⟨ih1,ih2⟩:=ih (by omega) c2 (by split<;> omega)
       cases hc:cpE ⟨xf,xt,xs⟩with
       | true =>
        rw[hc]at e2 ih1 ih2
        simp only[if_true]at ih1 ih2
        exact⟨fun hr=>by obtain⟨a,b,c,hq⟩:=ih1 hr; exact⟨a,b,c,Tvw base R n size to i xf xt xs _ hbl hl hi h1 cy _ _ _ hy h0 hcy e1 e2 b1 b2 b3 b4 q1 q2 c2 hq⟩,fun hr=>Tvw base R n size to i xf xt xs _ hbl hl hi h1 cy _ _ _ hy h0 hcy e1 e2 b1 b2 b3 b4 q1 q2 c2 (ih2 hr)⟩
       | false =>
        rw[hc]at e2 ih1 ih2
        simp only[Bool.false_eq_true,if_false]at ih1 ih2
        exact⟨fun hr=>by obtain⟨a,b,c,hq⟩:=ih1 hr; exact⟨a,b,c,Tvx base R n size to i xf xt xs _ hbl hl hi h1 cy _ _ _ hy h0 hcy e1 e2 b1 b2 b3 b4 q1 q2 c2 hq⟩,fun hr=>Tvx base R n size to i xf xt xs _ hbl hl hi h1 cy _ _ _ hy h0 hcy e1 e2 b1 b2 b3 b4 q1 q2 c2 (ih2 hr)⟩
     · rw[decide_eq_false c2,Bool.false_and]
       refine⟨fun h=>by simp at h,fun _=> ?_⟩
       cases hc:cpE ⟨xf,xt,xs⟩with
       | true=>rw[hc]at e2; exact T2v base R n size to i xf xt xs hbl hl hi h1 cy _ _ _ hy h0 hcy e1 e2 b1 b2 b3 b4 q1 q2 c2
       | false=>rw[hc]at e2; exact T2w base R n size to i xf xt xs hbl hl hi h1 cy _ _ _ hy h0 hcy e1 e2 b1 b2 b3 b4 q1 q2 c2
theorem runIs (base:Int) (l:List Ch) (hl:l.length<=9223372036854775807) (hs:∀ x∈l,x.s.size<1099511627776):Run (EX cp) 130 [.st [pi base,.sl 3 (chs l)]]=some (.val (pb (isD base l))):=by
 have hbl:=Tcv l
 rw[Tah _ A_delta_Is _ rfl rfl rfl]
 unfold isD
 by_cases c1:0<=base
 · by_cases c2:base<=20000
   · by_cases c3:l.length<=60
     · obtain⟨h1,h2⟩:=Tvy (cp:=cp) base l c2 c3 hs l.length 0 0 0 (by omega) (by omega) (by omega) (by omega)
       rw[List.drop_zero,show prv l 0=none from rfl]at h1 h2
       unfold dS dX at h2
       unfold dS at h1
       rw[show((0:Nat):Int)=0 from rfl]at h1 h2
       cases hr:isL base l 0 0 none with
       | true =>
        obtain⟨a,b,c,h⟩:=h1 hr
        simp(disch:=omega)[A_delta_Is,hbl,c1,c2,c3,h,Taa,Tad]
       | false =>
        have h:=h2 hr
        simp(disch:=omega)[A_delta_Is,hbl,c1,c2,c3,h,Taa,Tad]
     · simp(disch:=omega)[A_delta_Is,hbl,c1,c2,c3,Taa,Tad]
   · simp(disch:=omega)[A_delta_Is,c1,c2,Taa,Tad]
 · simp(disch:=omega)[A_delta_Is,c1,Taa,Tad]
def loR (r:Int×Int):Int:=min r.1 r.2
def hiR (r:Int×Int):Int:=max r.1 r.2
theorem runSpan (r:Int×Int):Run (EX cp) 121 [.st (cutV r)]=some (.val (.st [pi (loR r),pi (hiR r)])):=by
 obtain⟨a,c⟩:=r
 rw[Tah _ A_region_Span _ rfl rfl rfl]
 have h1: (if c<a then c else a)=min a c:=by omega
 have h2: (if a<c then c else a)=max a c:=by omega
 simp[A_region_Span,cutV,h1,h2,loR,hiR]
def ivB (n:Int)(f t:Int):Bool:=decide (0<=f)&&decide (f<=t)&&decide (t<=n)
theorem runIvIs (f t n:Int):Run (EX cp) 133 [.st [pi f,pi t],pi n]=some (.val (pb (ivB n f t))):=by
 rw[Tah _ A_interval_Is _ rfl rfl rfl]
 unfold ivB
 by_cases c1:0<=f
 · by_cases c2:f<=t
   · simp(disch:=omega)[A_interval_Is,c1,c2,Taa,Tad]
   · simp(disch:=omega)[A_interval_Is,c1,c2,Taa,Tad]
 · simp(disch:=omega)[A_interval_Is,c1,Taa,Tad]
theorem runTouch (a b c d:Int):Run (EX cp) 187 [.st [pi a,pi b],.st [pi c,pi d]]=some (.val (pb (decide (c<=b)&&decide (a<=d)))):=by
 rw[Tah _ A_interval_Touch _ rfl rfl rfl]
 by_cases c1:c<=b
 · simp(disch:=omega)[A_interval_Touch,c1,Taa,Tad]
 · simp(disch:=omega)[A_interval_Touch,c1,Taa,Tad]
theorem runCountR (l:List (Int×Int)):Run (EX cp) 134 [.sl 2 (cutsL l)]=some (.val (pi (if l.length=0 then 12 else if 8<l.length then 70 else 0))):=by
 have hl: (cutsL l).length=l.length:=by simp[cutsL]
 rw[Tah _ A_region_count _ rfl rfl rfl]
 by_cases c1:l.length=0
 · simp(disch:=omega)[A_region_count,hl,c1,Taa,Tad]
 · by_cases c2:8<l.length
   · have c2': (8:Int)<l.length:=by omega
     simp(disch:=omega)[A_region_count,hl,c1,c2,c2',Taa,Tad]
   · have c2':¬ (8:Int)<l.length:=by omega
     simp(disch:=omega)[A_region_count,hl,c1,c2,c2',Taa,Tad]
def insB (n:Int)(r:Int×Int):Bool:=ivB n (loR r) (hiR r)
theorem runInside1 (s:ByteArray)(r:Int×Int):Run (EX cp) 191 [.st (cutV r),.pt [.sc (.string s)]]=some (.val (pb (insB s.size r))):=by
 have h1:=runSpan (cp:=cp) r
 have h2:=runIvIs (cp:=cp) (loR r) (hiR r) s.size
 rw[Tah _ A_region_inside_1 _ rfl rfl rfl]
 simp only[cutV]at h1 ⊢
 simp[A_region_inside_1,h1,h2,insB]
theorem runMove1 (base:Int)(l:List (List PV))(r:Int×Int):Run (EX cp) 132 [.st (cutV r),.pt [pi base,.sl 3 l]]=some (.val (pb (insB base r))):=by
 have h1:=runSpan (cp:=cp) r
 have h2:=runIvIs (cp:=cp) (loR r) (hiR r) base
 rw[Tah _ A_region_Move_1 _ rfl rfl rfl]
 simp only[cutV]at h1 ⊢
 simp[A_region_Move_1,h1,h2,insB]
def edgR (s:ByteArray)(r:Int×Int):Bool:=edge s r.1&&edge s r.2
theorem runEdges1 (s:ByteArray)(hs:s.size<1099511627776)(r:Int×Int):Run (EX cp) 192 [.st (cutV r),.pt [.sc (.string s)]]=some (.val (pb (edgR s r))):=by
 have h1:=utfIsEdge (cp:=cp) s r.1 hs
 have h2:=utfIsEdge (cp:=cp) s r.2 hs
 rw[Tah _ A_region_edges_1 _ rfl rfl rfl]
 unfold edgR
 simp only[cutV]
 cases c:edge s r.1<;> rw[c]at h1<;> simp[A_region_edges_1,h1,h2]
theorem Tij (l:List (List PV))(fid:FuncId)(cs:List PV)(p:List PV->Bool)(hl:l.length<=9223372036854775807)(hp:∀ c∈l,c.length=2/\Run (EX cp) fid (.st c::cs)=some (.val (pb (p c)))):∀(m i:Nat),m+i=l.length ->
 Code (EX cp) L_slices_IndexFunc_api_Region_api_Region_0 ⟨[(0,.p (.sl 2 l)),(1,.p (.fn fid cs)),(7,.p (pi l.length)),(8,.p (pi i))],[]⟩ =
  some (match (l.drop i).findIdx? p with
   | some j=> (.ret,⟨[(4,.p (pi ((i+j:Nat):Int)))],[]⟩)
   | none=> (.ex 0,⟨[(0,.p (.sl 2 l)),(1,.p (.fn fid cs)),(7,.p (pi l.length)),(8,.p (pi l.length)),(9,.p (pb false))],[]⟩)):=by
 intro m
 induction m with
 | zero =>
  intro i hi
  have:i=l.length:=by omega
  subst this
  rw[L_slices_IndexFunc_api_Region_api_Region_0,Taf]
  simp
 | succ m ih =>
  intro i hi
  have hlt:i<l.length:=by omega
  obtain⟨h2,hr⟩:=hp l[i] (List.getElem_mem hlt)
  have hg:l[i]?=some l[i]:=List.getElem?_eq_getElem hlt
  rw[List.drop_eq_getElem_cons hlt,List.findIdx?_cons]
  generalize hge:l[i]=c at *
  have htk:c.take 2=c:=List.take_of_length_le (by omega)
  cases hpc:p c with
  | true =>
   rw[hpc]at hr
   rw[L_slices_IndexFunc_api_Region_api_Region_0,Taf]
   simp(disch:=omega)[Taa,hlt,hg,hge,hr,h2,htk,Taj]
  | false =>
   have ih':=ih (i+1) (by omega)
   rw[hpc]at hr
   have e: (some (match (if(false:Bool)=true then some 0 else Option.map (fun i=>i+1) ((l.drop (i+1)).findIdx? p))with
    | some j=> (Out.ret,(⟨[(4,.p (pi ((i+j:Nat):Int)))],[]⟩:St))
    | none=> (.ex 0,⟨[(0,.p (.sl 2 l)),(1,.p (.fn fid cs)),(7,.p (pi l.length)),(8,.p (pi l.length)),(9,.p (pb false))],[]⟩)))=Code (EX cp) L_slices_IndexFunc_api_Region_api_Region_0 ⟨[(0,.p (.sl 2 l)),(1,.p (.fn fid cs)),(7,.p (pi l.length)),(8,.p (pi ((i+1:Nat):Int)))],[]⟩:=by
    rw[ih']
    cases(l.drop (i+1)).findIdx? p with
    | none=>rfl
    | some j=>simp; omega
   rw[e]
   conv=>lhs; rw[L_slices_IndexFunc_api_Region_api_Region_0,Taf]
   simp(disch:=omega)[Taa,hlt,hg,hge,hr,h2,htk,Taj,Tab]
   rw[L_slices_IndexFunc_api_Region_api_Region_0]
theorem containsFuncR (l:List (List PV))(fid:FuncId)(cs:List PV)(p:List PV->Bool)(hl:l.length<=9223372036854775807)(hp:∀ c∈l,c.length=2/\Run (EX cp) fid (.st c::cs)=some (.val (pb (p c)))) :
 Run (EX cp) 178 [.sl 2 l,.fn fid cs]=some (.val (pb (l.any p))):=by
 have h:=Tij l fid cs p hl hp l.length 0 (by omega)
 have hi:Run (EX cp) 213 [.sl 2 l,.fn fid cs]=some (.val (pi (match l.findIdx? p with | some j=> (j:Int) | none=> -1))):=by
  rw[Tah _ A_slices_IndexFunc_api_Region_api_Region _ rfl rfl rfl]
  simp only[List.drop_zero,Nat.zero_add,Int.ofNat_zero,Int.natCast_zero]at h
  cases hf:l.findIdx? p<;> rw[hf]at h<;> simp[A_slices_IndexFunc_api_Region_api_Region,h]
 rw[Tah _ A_slices_ContainsFunc_api_Region_api_Region _ rfl rfl rfl]
 simp[A_slices_ContainsFunc_api_Region_api_Region,hi]
 cases hf:l.findIdx? p with
 | none =>
  rw[List.findIdx?_eq_none_iff]at hf
  simp
  intro c hc
  simpa using hf c hc
 | some j =>
  obtain⟨h1,h2,_⟩:=List.findIdx?_eq_some_iff_getElem.1 hf
  simp
  exact⟨_,List.getElem_mem h1,h2⟩
theorem runEvery1 (r:Int×Int)(fid:FuncId)(cs:List PV)(b:Bool)(h:Run (EX cp) fid (.st (cutV r)::cs)=some (.val (pb b))):Run (EX cp) 179 [.st (cutV r),.pt [.fn fid cs]]=some (.val (pb (!b))):=by
 rw[Tah _ A_region_every_api_Region_1 _ rfl rfl rfl]
 simp only[cutV]at h ⊢
 simp[A_region_every_api_Region_1,h]
theorem runEvery (l:List (Int×Int))(hl:l.length<=9223372036854775807)(fid:FuncId)(cs:List PV)(p:Int×Int->Bool)(hp:∀ r∈l,Run (EX cp) fid (.st (cutV r)::cs)=some (.val (pb (p r)))):Run (EX cp) 131 [.sl 2 (cutsL l),.fn fid cs]=some (.val (pb (l.all p))):=by
 have h:=containsFuncR (cp:=cp) (cutsL l) 179 [.pt [.fn fid cs]] (fun c=>match c with | [.sc (.int .i64 a),.sc (.int .i64 b)]=> !p (a,b) | _=>false) (by simpa[cutsL]using hl) (fun c hc=>by
  obtain⟨r,hr,rfl⟩:=List.mem_map.1 hc
  exact⟨rfl,runEvery1 r fid cs (p r) (hp r hr)⟩)
 have e: (cutsL l).any (fun c=>match c with | [.sc (.int .i64 a),.sc (.int .i64 b)]=> !p (a,b) | _=>false)= !(l.all p):=by
  clear h hp hl
  induction l with
  | nil=>rfl
  | cons r l ih =>
   show(!p r|| (cutsL l).any _)= !(p r&&l.all p)
   rw[ih]
   cases p r<;> simp
 rw[e]at h
 rw[Tah _ A_region_every_api_Region _ rfl rfl rfl]
 simp[A_region_every_api_Region,h]
def apB:List (Int×Int)->Bool
 | a::b::l=>decide (hiR a<loR b)&&apB (b::l)
 | _=>true
theorem Tvz:∀(l:List (Int×Int)) (i:Nat) (h:i+1<l.length),apB l=true->hiR l[i]<loR l[i+1]
 | a::b::l,0,h,hl=>by
  rw[apB,Bool.and_eq_true,decide_eq_true_eq]at hl
  exact hl.1
 | a::b::l,i+1,h,hl=>by
  rw[apB,Bool.and_eq_true]at hl
  exact Tvz (b::l) i (by simpa using h) hl.2
 | [a],i,h,_=>by simp at h
 | [],i,h,_=>by simp at h
def selB (s:ByteArray)(l:List (Int×Int)):Bool:=decide (1<=l.length)&&decide (l.length<=8)&&l.all (insB s.size)&&l.all (edgR s)&&apB l
def sgn (a b:Int):Int:=if a<b then -1 else if b<a then 1 else 0
theorem runNaN (a:Int):Run (EX cp) 215 [pi a]=some (.val (pb false)):=by
 rw[Tah _ A_cmp_isNaN_int _ rfl rfl rfl]
 simp[A_cmp_isNaN_int]
theorem runCompare (a b:Int):Run (EX cp) 184 [pi a,pi b]=some (.val (pi (sgn a b))):=by
 have h1:=runNaN (cp:=cp) a
 have h2:=runNaN (cp:=cp) b
 rw[Tah _ A_cmp_Compare_int _ rfl rfl rfl]
 unfold sgn
 by_cases c1:a<b
 · simp(disch:=omega)[A_cmp_Compare_int,h1,h2,c1,Taa,Tad]
 · by_cases c2:b<a
   · simp(disch:=omega)[A_cmp_Compare_int,h1,h2,c1,c2,Taa,Tad]
   · simp(disch:=omega)[A_cmp_Compare_int,h1,h2,c1,c2,Taa,Tad]
theorem runOr1 (b:Int):Run (EX cp) 183 [.sl 1 [[pi 1],[pi b]]]=some (.val (pi 1)):=by
 rw[Tah _ A_cmp_Or_int _ rfl rfl rfl]
 simp[A_cmp_Or_int,L_cmp_Or_int_0,Taf]
theorem runCmpGt (a b:Int×Int)(h:loR b<loR a):Run (EX cp) 182 [.st (cutV a),.st (cutV b)]=some (.val (pi 1)):=by
 have s1:=runSpan (cp:=cp) a
 have s2:=runSpan (cp:=cp) b
 have c1:=runCompare (cp:=cp) (loR a) (loR b)
 have c2:=runCompare (cp:=cp) (hiR a) (hiR b)
 have o:=runOr1 (cp:=cp) (sgn (hiR a) (hiR b))
 rw[show sgn (loR a) (loR b)=1 by unfold sgn; rw[if_neg (by omega),if_pos h]]at c1
 rw[Tah _ A_region_apart_1 _ rfl rfl rfl]
 simp only[cutV]at s1 s2 ⊢
 simp[A_region_apart_1,s1,s2,c1,c2,o]
theorem runTouchR (a b:Int×Int):Run (EX cp) 186 [.st (cutV a),.st (cutV b)]=some (.val (pb (decide (loR b<=hiR a)&&decide (loR a<=hiR b)))):=by
 have s1:=runSpan (cp:=cp) a
 have s2:=runSpan (cp:=cp) b
 have t:=runTouch (cp:=cp) (loR a) (hiR a) (loR b) (hiR b)
 rw[Tah _ A_region_apart_2 _ rfl rfl rfl]
 simp only[cutV]at s1 s2 ⊢
 simp[A_region_apart_2,s1,s2,t]
theorem lo_hi (r:Int×Int):loR r<=hiR r:=by unfold loR hiR; omega
theorem Tqb (l:List (Int×Int))(hl:l.length<=8)(ho:apB l=true):∀(m i:Nat),m+i+1=l.length ->
 Code (EX cp) L_slices_insertionSortCmpFunc_api_Region_1 ⟨[(0,.p (.sl 2 (cutsL l))),(1,.p (pi 0)),(2,.p (pi l.length)),(3,.p (.fn 182 [])),(8,.p (pi (i+1:Nat)))],[]⟩ =
  some (.ex 0,⟨[(0,.p (.sl 2 (cutsL l))),(1,.p (pi 0)),(2,.p (pi l.length)),(3,.p (.fn 182 [])),(8,.p (pi l.length)),(14,.p (pb false))],[]⟩)
 | 0,i,hm=>by
  have hbl:=Taq l
  rw[L_slices_insertionSortCmpFunc_api_Region_1,Taf,show i+1=l.length by omega]
  generalize cutsL l=R at *
  generalize l.length=z at *
  simp(disch:=omega)[Tad,-getElem?_pos]
 | m+1,i,hm=>by
  have hi:i+1<l.length:=by omega
  have h1:=Tds l i (by omega)
  have h2:=Tds l (i+1) hi
  have hap:=Tvz l i hi ho
  have hg:=runCmpGt (cp:=cp) l[i+1] l[i] (by have:=lo_hi l[i]; omega)
  have ih:=Tqb l hl ho m (i+1) (by omega)
  have hbl:=Taq l
  have e1: ((i:Int)+1).toNat=i+1:=by omega
  have e0: (0:Int)<= (i:Int)+1:=by omega
  have e2: (0:Int)< (i:Int)+1:=by omega
  have inner:Code (EX cp) L_slices_insertionSortCmpFunc_api_Region_0 ⟨[(0,.p (.sl 2 (cutsL l))),(1,.p (pi 0)),(2,.p (pi l.length)),(3,.p (.fn 182 [])),(8,.p (pi ((i:Int)+1))),(9,.p (pi ((i:Int)+1)))],[]⟩ =
   some (.ex 2,⟨[(0,.p (.sl 2 (cutsL l))),(1,.p (pi 0)),(2,.p (pi l.length)),(3,.p (.fn 182 [])),(8,.p (pi ((i:Int)+1))),(9,.p (pi ((i:Int)+1))),(34,.p (pb false))],[]⟩):=by
   rw[L_slices_insertionSortCmpFunc_api_Region_0,Taf]
   simp only[cutV]at hg
   clear hap ih
   generalize l[i]=p at *
   generalize l[i+1]=q at *
   generalize cutsL l=R at *
   generalize l.length=z at *
   simp(disch:=omega)[h1,h2,hg,hbl,e1,e0,e2,Taa,Tad,Tab,-getElem?_pos]
  rw[L_slices_insertionSortCmpFunc_api_Region_1,Taf]
  rw[L_slices_insertionSortCmpFunc_api_Region_1]at ih
  rw[show((i+1+1:Nat):Int)= (i:Int)+1+1 by omega]at ih
  rw[show((i+1:Nat):Int)= (i:Int)+1 by omega]
  clear hap hg h1 h2
  generalize cutsL l=R at *
  generalize l.length=z at *
  rw[← ih]
  simp(disch:=omega)[inner,hi,Taa,Tad,Tab,-getElem?_pos]
theorem runSort (l:List (Int×Int))(h1:1<=l.length)(hl:l.length<=8)(ho:apB l=true):Run (EX cp) 181 [.sl 2 (cutsL l),.fn 182 []]=some (.val (.tu [])):=by
 have hbl:=Taq l
 have i1:Run (EX cp) 226 [.sl 2 (cutsL l),pi 0,pi l.length,.fn 182 []]=some (.val (.tu [])):=by
  have lp:=Tqb (cp:=cp) l hl ho (l.length-1) 0 (by omega)
  rw[show(((0+1:Nat)):Int)=1 from rfl]at lp
  rw[Tah _ A_slices_insertionSortCmpFunc_api_Region _ rfl rfl rfl]
  simp(disch:=omega)[A_slices_insertionSortCmpFunc_api_Region,lp,Tab]
 have n1:¬ (20:Int)<=l.length:=by omega
 have n2:¬ (20:Int)<l.length:=by omega
 have l0:Code (EX cp) L_slices_stableCmpFunc_api_Region_0 ⟨[(0,.p (.sl 2 (cutsL l))),(1,.p (pi l.length)),(2,.p (.fn 182 [])),(6,.p (pi 20)),(7,.p (pi 0)),(8,.p (pi 20))],[]⟩=some (.ex 0,⟨[(0,.p (.sl 2 (cutsL l))),(1,.p (pi l.length)),(2,.p (.fn 182 [])),(6,.p (pi 20)),(7,.p (pi 0)),(8,.p (pi 20)),(13,.p (pb false))],[]⟩):=by
  rw[L_slices_stableCmpFunc_api_Region_0,Taf]
  generalize cutsL l=R at *
  generalize l.length=z at *
  simp(disch:=omega)[n1,Tad]
 have l2:Code (EX cp) L_slices_stableCmpFunc_api_Region_2 ⟨[(0,.p (.sl 2 (cutsL l))),(1,.p (pi l.length)),(2,.p (.fn 182 [])),(6,.p (pi 20))],[]⟩=some (.ex 2,⟨[(0,.p (.sl 2 (cutsL l))),(1,.p (pi l.length)),(2,.p (.fn 182 [])),(6,.p (pi 20)),(30,.p (pb false))],[]⟩):=by
  rw[L_slices_stableCmpFunc_api_Region_2,Taf]
  generalize cutsL l=R at *
  generalize l.length=z at *
  simp(disch:=omega)[n2,Tad]
 have i2:Run (EX cp) 214 [.sl 2 (cutsL l),pi l.length,.fn 182 []]=some (.val (.tu [])):=by
  rw[Tah _ A_slices_stableCmpFunc_api_Region _ rfl rfl rfl]
  generalize cutsL l=R at *
  simp[A_slices_stableCmpFunc_api_Region,i1,l0,l2]
 rw[Tah _ A_slices_SortStableFunc_api_Region_api_Region _ rfl rfl rfl]
 generalize cutsL l=R at *
 simp[A_slices_SortStableFunc_api_Region_api_Region,i2,hbl]
theorem Tmq (l:List (Int×Int))(hl:l.length<=8)(ho:apB l=true)(j:FuncId):∀(m i:Nat),m+i=l.length ->
 Code (EX cp) L_interval_Folded_api_Region_0 ⟨[(1,.p (.fn 186 [])),(2,.p (.fn j [])),(7,.ms 7 0 i),(11,.p (.sl 2 (cutsL l))),(12,.p (pi l.length)),(13,.p (pi i))],[(7,.row 41 2 false (cutsL (l.take i)))]⟩ =
  some (.ex 0,⟨[(1,.p (.fn 186 [])),(2,.p (.fn j [])),(7,.ms 7 0 l.length),(11,.p (.sl 2 (cutsL l))),(12,.p (pi l.length)),(13,.p (pi l.length)),(14,.p (pb false))],[(7,.row 41 2 false (cutsL l))]⟩)
 | 0,i,hm=>by
  obtain rfl:i=l.length:=by omega
  have hbl:=Taq l
  rw[L_interval_Folded_api_Region_0,Taf,List.take_length]
  generalize cutsL l=R at *
  generalize l.length=z at *
  simp(disch:=omega)[Tad,-getElem?_pos]
 | m +1,i,hm=>by
  have hi:i<l.length:=by omega
  have h1:=Tds l i hi
  have ih:=Tmq l hl ho j m (i+1) (by omega)
  have hbl:=Taq l
  have htl: (cutsL (l.take i)).length=i:=by rw[Taq,List.length_take]; omega
  have esn:cutsL (l.take (i+1))=cutsL (l.take i)++ [[pi l[i].1,pi l[i].2]]:=by
   have ea:∀ a b:List (Int×Int),cutsL (a++b)=cutsL a++cutsL b:=fun a b=>by simp[cutsL]
   rw[List.take_add_one,List.getElem?_eq_getElem hi,ea]
   rfl
  rw[esn]at ih
  rw[show((i+1:Nat):Int)= (i:Int)+1 by omega]at ih
  rw[L_interval_Folded_api_Region_0,Taf]
  rw[L_interval_Folded_api_Region_0]at ih
  have hcap: (i+1)*16<=maxBytes/\i+1<=9223372036854775807:=by unfold maxBytes; omega
  rcases Nat.eq_zero_or_pos i with h0 | h0
  · subst h0
    generalize l[0]=p at *
    generalize cutsL (l.take 0)=T at *
    obtain rfl:T= []:=List.length_eq_zero_iff.1 htl
    generalize cutsL l=R at *
    generalize l.length=z at *
    rw[← ih]
    simp(disch:=omega)[h1,hi,maxBytes,Taa,Tad,Tab,Taj,-getElem?_pos]
  · have hap:=Tvz l (i-1) (by omega) ho
    have ht:=runTouchR (cp:=cp) l[i-1] l[i]
    have e4:i-1+1=i:=by omega
    have hap':hiR l[i-1]<loR l[i]:=by
     have:loR l[i-1+1]=loR l[i]:=by congr 2
     omega
    rw[decide_eq_false (show ¬ loR l[i]<=hiR l[i-1]by omega),Bool.false_and]at ht
    have h3: (cutsL (l.take i))[i-1]?=some [pi l[i-1].1,pi l[i-1].2]:=by
     have:=Tds (l.take i) (i-1) (by rw[List.length_take]; omega)
     rw[this]
     simp
    have ek: ((i:Int)-1).toNat=i-1:=by omega
    have e0: (0:Int)<= (i:Int)-1:=by omega
    have e5:i-1<i:=by omega
    simp only[cutV]at ht
    clear hap hap'
    generalize l[i-1]=q at *
    generalize l[i]=p at *
    generalize cutsL (l.take i)=T at *
    generalize cutsL l=R at *
    generalize l.length=z at *
    rw[← ih]
    simp(disch:=omega)[h1,h3,ht,hi,htl,ek,e0,e5,hcap,Taa,Tad,Tab,Taj,-getElem?_pos]
theorem runApart (l:List (Int×Int))(h1:1<=l.length)(hl:l.length<=8)(ho:apB l=true):Run (EX cp) 136 [.sl 2 (cutsL l)]=some (.own 41 2 (cutsL l)):=by
 have hbl:=Taq l
 have d1:=Tqw (cp:=cp) (cutsL l) (fun c hc=>by obtain⟨r,_,rfl⟩:=List.mem_map.1 hc; rfl) (by rw[hbl]; omega)
 have d2:=runSort (cp:=cp) l h1 hl ho
 have lp:=Tmq (cp:=cp) l hl ho 188 l.length 0 (by omega)
 rw[show((0:Nat):Int)=0 from rfl,List.take_zero,show cutsL []= []from rfl]at lp
 have d3:Run (EX cp) 185 [.sl 2 (cutsL l),.fn 186 [],.fn 188 []]=some (.own 41 2 (cutsL l)):=by
  rw[Tah _ A_interval_Folded_api_Region _ rfl rfl rfl]
  generalize cutsL l=R at *
  simp[A_interval_Folded_api_Region,lp,hbl]
 have htk: (cutsL l).take l.length=cutsL l:=List.take_of_length_le (by rw[hbl]; exact Nat.le_refl _)
 rw[Tah _ A_region_apart _ rfl rfl rfl]
 generalize cutsL l=R at *
 simp[A_region_apart,d1,d2,d3,hbl,htk]
theorem runMoveO (base:Int)(l:List Ch)(hd:isD base l=true)(a:Int)(ha:inI a)(af:Bool):Run (EX cp) 135 [.st [pi base,.sl 3 (chs l)],pi a,pb af]=some (.val (pi (moveF base l a af))):=by
 obtain⟨b0,b1,hl,hL⟩:=Tde hd
 have bd:=Teg base b1 l 0 0 none hL (Int.le_refl _)
 have d1:=runIs (cp:=cp) base l (by omega) (fun x hx=>by have:=bd x hx; omega)
 rw[hd]at d1
 have hbl:=Tcv l
 obtain⟨s,h1,h2⟩:=Tn0 (cp:=cp) l hl bd (min (max a 0) base) (by omega) (by omega) af l.length 0 0 0 (by omega) (by omega) (by omega) (by omega) (by omega)
 rw[show((0:Nat):Int)=0 from rfl]at h1
 rw[List.drop_zero]at h2
 have e1: (if 0 > a then 0 else a)=max a 0:=by omega
 have e2: (if base<max a 0 then base else max a 0)=min (max a 0) base:=by omega
 rw[Tah _ A_offset_Move _ rfl rfl rfl]
 have hmv:moveF base l a af=if af=true then(mvL (min (max a 0) base) l 0 0).1+ (mvL (min (max a 0) base) l 0 0).2 else(mvL (min (max a 0) base) l 0 0).1:=rfl
 rw[hmv,← h2]
 congr 1
 refine Tjd _ 6 _ _ _ ?_
 generalize min (max a 0) base=m at *
 generalize chs l=R at *
 generalize l.length=z at *
 simp(disch:=omega)[A_offset_Move,headN,d1,hbl,e1,e2,h1,Taa,Tad]
end Go.Proofs.YtjpibniecllafaaGreat.AM
end
