/- Made by pack.py: more of it. No condition but what each says. -/
import Derived.Test.YtjpibniecllafaaGreatC15
import Derived.Test.YtjpibniecllafaaGreatC13
import Derived.Test.YtjpibniecllafaaGreatC12
set_option linter.unusedSimpArgs false
set_option linter.unusedVariables false
set_option maxHeartbeats 16000000
section
namespace Go.Proofs.YtjpibniecllafaaGreat.AM
open Go Go.Proofs.YtjpibniecllafaaGreat.U
variable {cp:List PV->Option Ret}
theorem Tr7 (s:List UInt8):backN s 0=0:=rfl
theorem Tr8 (s:List UInt8)(n:Nat)(a:UInt8)(h:s[n+1]?=some a):backN s (n+1)=if cont a then backN s n else n+1:=by
 rw[backN,h]
theorem Tvq (s:ByteArray)(hv:valid (L s)=true)(hs:s.size<1073741824)(k:Nat)(R2 R3:Ob)(h2:R2.isDp=false)(h3:R3.isDp=false):∀ n,n<s.size ->
 Code (EX cp) L_rope_made_0 ⟨[(0,.p (.sc (.string s))),(2,.mp 2 0 0),(3,.ms 3 0 k),(4,.p (pi n))],[(2,R2),(3,R3)]⟩=some (.ex 2,⟨[(0,.p (.sc (.string s))),(2,.mp 2 0 0),(3,.ms 3 0 k),(4,.p (pi (backN (L s) n))),(15,.p (pb false))],[(2,R2),(3,R3)]⟩):=by
 intro n
 induction n with
 | zero =>
  intro h
  obtain⟨a,t,hd⟩:=Tet s 0 h
  have hb:= (bt_at s 0 a t hd).1
  rw[show((0:Nat):Int)=0 from rfl]at hb
  rw[List.drop_zero]at hd
  have hc:¬ cont a:=by rw[hd]at hv; exact Tex hv
  have e:=n192 a
  have hr:=Tal a
  have e2:¬ bi a / 64*64=128:=by unfold cont at hc; omega
  rw[Tr7,L_rope_made_0,Taf]
  simp(disch:=omega)[hb,e,e2,Tad,Taa,IntKind.bits]
 | succ n ih =>
  intro h
  obtain⟨a,t,hd⟩:=Tet s (n+1) h
  have hb:= (bt_at s (n+1) a t hd).1
  have hg: (L s)[n+1]?=some a:=by rw[← List.head?_drop,hd]; rfl
  have e:=n192 a
  have hr:=Tal a
  have ec: ((n+1:Nat):Int)= (n:Int)+1:=rfl
  rw[ec]at hb ⊢
  rw[Tr8 _ _ _ hg]
  by_cases hc:cont a
  · have e2:bi a / 64*64=128:=by unfold cont at hc; omega
    have e3:IntKind.wrap .i64 ((n:Int)+1-1)=n:=by rw[Tab _ (by omega) (by omega)]; omega
    have e4:IntKind.wrap .i64 (n:Int)=n:=Tab _ (by omega) (by omega)
    rw[if_pos hc,← ih (by omega),L_rope_made_0,Taf]
    simp(disch:=omega)[hb,e,e2,e3,e4,Tad,Taa,IntKind.bits]
  · have e2:¬ bi a / 64*64=128:=by unfold cont at hc; omega
    rw[if_neg hc,L_rope_made_0,Taf]
    simp(disch:=omega)[hb,e,e2,Tad,Taa,IntKind.bits]
def cut64 (s:ByteArray):Nat:=if s.size<=64 then s.size else backN (L s) 64
theorem Tyy (s:ByteArray)(hv:valid (L s)=true)(h0:0<s.size):1<=cut64 s/\cut64 s<=64/\cut64 s<=s.size/\ (64<s.size->61<=cut64 s)/\valid ((L s).take (cut64 s))=true/\valid ((L s).drop (cut64 s))=true:=by
 unfold cut64
 by_cases c:s.size<=64
 · rw[if_pos c,← L_len,List.take_length,List.drop_length]
   rw[L_len]
   exact⟨by omega,c,Nat.le_refl _,by omega,hv,Ta0⟩
 · rw[if_neg c]
   have h1:=Tp4 (L s) 64
   have h2:=Tyv (L s) hv 64 (by omega) (by rw[L_len]; omega)
   have h3:=Tp5 (L s) hv 64
   obtain⟨v1,v2⟩:=Tvg (L s) (backN (L s) 64) (by rw[L_len]; omega) h3 hv
   exact⟨by omega,h1,by omega,fun _=>by omega,v1,v2⟩
theorem Tn3 (s:ByteArray)(n:Nat):L (s.extract 0 n)= (L s).take n:=by rw[L_extract,List.drop_zero,Nat.sub_zero]
theorem Tn4 (s:ByteArray)(n:Nat):L (s.extract n s.size)= (L s).drop n:=by
 rw[L_extract,List.take_of_length_le]
 rw[List.length_drop,L_len]; exact Nat.le_refl _
theorem Tmn (s:ByteArray)(n:Nat)(h:n<=s.size): (s.extract 0 n).size=n:=by rw[← L_len,Tn3,List.length_take,L_len]; omega
theorem Tmo (s:ByteArray)(n:Nat): (s.extract n s.size).size=s.size-n:=by rw[← L_len,Tn4,List.length_drop,L_len]
theorem Tqa {s:ByteArray}(h:s.size=0):s= ⟨#[]⟩:=L_inj (by
 have:L s= []:=List.eq_nil_of_length_eq_zero (by rw[L_len]; exact h)
 rw[this]; rfl)
theorem okP.cons {x:ByteArray}{P:List ByteArray}(hP:okP P)(h1:valid (L x)=true)(h2:1<=x.size)(h3:x.size<=64)(h:∀ y∈P.head?,64<x.size+y.size):okP (x::P) :=
 (T2n x h1 h2 h3).append hP fun u hu y hy=>by
  simp only[List.getLast?_singleton,Option.mem_def,oIE]at hu
  subst hu; exact h y hy
theorem Tvr (R2:Ob)(h2:R2.isDp=false)(h2r:∀ d,R2.ref d=false):∀(m:Nat) (s:ByteArray) (acc:List ByteArray),s.size<=m->valid (L s)=true->s.size<1073741824->acc.length+s.size<1073741824 ->
 ∃ P,flat P=L s/\okP P/\ (∀ y∈P.head?,y.size=s.size∨61<=y.size) /\
  Code (EX cp) L_rope_made_1 ⟨[(0,.p (.sc (.string s))),(2,.mp 2 0 0),(3,.ms 3 0 acc.length)],[(2,R2),(3,.row 153 1 false (strs acc))]⟩ =
   some (.ex 0,⟨[(0,.p (.sc (.string ⟨#[]⟩))),(2,.mp 2 0 0),(3,.ms 3 0 (acc++P).length),(6,.p (pb false))],[(2,R2),(3,.row 153 1 false (strs (acc++P)))]⟩):=by
 intro m
 induction m with
 | zero =>
  intro s acc hm hv hs ha
  obtain rfl:=Tqa (s:=s) (by omega)
  refine⟨[],rfl,Tvh,by simp,?_⟩
  rw[List.append_nil,L_rope_made_1,Taf]
  simp
 | succ m ih =>
  intro s acc hm hv hs ha
  by_cases h0:s.size=0
  · obtain rfl:=Tqa h0
    refine⟨[],rfl,Tvh,by simp,?_⟩
    rw[List.append_nil,L_rope_made_1,Taf]
    simp
  have hne:¬ s= (⟨#[]⟩:ByteArray):=fun e=>h0 (by rw[e]; rfl)
  obtain⟨c1,c2,c3,c4,c5,c6⟩:=Tyy s hv (by omega)
  have z1:=Tmn s (cut64 s) c3
  have z2:=Tmo s (cut64 s)
  obtain⟨P,p1,p2,p3,p4⟩:=ih (s.extract (cut64 s) s.size) (acc++ [s.extract 0 (cut64 s)]) (by omega) (by rw[Tn4]; exact c6) (by omega) (by rw[List.length_append,List.length_singleton]; omega)
  have hcons:okP (s.extract 0 (cut64 s)::P):=p2.cons (by rw[Tn3]; exact c5) (by omega) (by omega) (fun y hy=>by
   have hy1:= (p2.val y (List.mem_of_mem_head? hy)).2.1
   have hy2:y.size<= (s.extract (cut64 s) s.size).size:=by
    cases P with
    | nil=>simp at hy
    | cons z P =>
     simp only[List.head?_cons,Option.mem_def,oIE]at hy
     subst hy
     rw[← L_len (s.extract _ _),← p1,Tbo,List.length_append,L_len]; omega
   have:=p3 y hy
   by_cases c:s.size<=64
   · have hc:cut64 s=s.size:=by unfold cut64; rw[if_pos c]
     omega
   · have:=c4 (by omega)
     omega)
  refine⟨s.extract 0 (cut64 s)::P,?_,hcons,fun y hy=> ?_,?_⟩
  · rw[Tbo,p1,Tn3,Tn4,List.take_append_drop]
  · simp only[List.head?_cons,Option.mem_def,oIE]at hy
    subst hy
    unfold cut64 at z1 c4 ⊢
    split
    · rename_i h; rw[if_pos h]at z1; left; exact z1
    · rename_i h; rw[if_neg h]at z1 c4; right; omega
  rw[show acc++s.extract 0 (cut64 s)::P= (acc++ [s.extract 0 (cut64 s)])++P by simp,← p4]
  have hsn:=Tt0 acc (s.extract 0 (cut64 s))
  have hal: (acc++ [s.extract 0 (cut64 s)]).length=acc.length+1:=by simp
  have hcap: (acc.length+1)*16<=maxBytes/\acc.length+1<=9223372036854775807:=by unfold maxBytes; omega
  by_cases c:s.size<=64
  · have hc:cut64 s=s.size:=by unfold cut64; rw[if_pos c]
    rw[hc]at hsn hal c3 ⊢
    rw[L_rope_made_1,Taf]
    simp(maxSteps:=1000000) (disch:=omega) [hne,h2r,c,hsn,hal,hcap,Taa,Tad,Taj]
  · have hc:cut64 s=backN (L s) 64:=by unfold cut64; rw[if_neg c]
    have hbk:=Tvq (cp:=cp) s hv hs acc.length R2 (.row 153 1 false (strs acc)) h2 rfl 64 (by omega)
    rw[show((64:Nat):Int)=64 from rfl,← hc]at hbk
    generalize cut64 s=n at *
    rw[L_rope_made_1,Taf]
    simp(maxSteps:=1000000) (disch:=omega) [hne,h2r,c,c3,hsn,hal,hcap,hbk,Taa,Tad,Taj]
theorem ropeMade (s:ByteArray)(hv:valid (L s)=true)(hs:s.size<1073741824):∃ P x,okP P/\flat P=L s/\RepT x P/\ (s.size<=64->P.length<=1)/\Run (EX cp) 119 [.sc (.string s)]=some (.val (.st [x])):=by
 obtain⟨P,p1,p2,p3,p4⟩:=Tvr (cp:=cp) (.row 149 1 false [[.sc (.pointer none)]]) rfl (fun _=>rfl) s.size s [] (Nat.le_refl _) hv hs (by simpa using hs)
 rw[List.nil_append,Tpb,List.length_nil]at p4
 have hl:=p2.len
 rw[p1,L_len]at hl
 obtain⟨x,m1,m2⟩:=treeMake (cp:=cp) P ⟨by rw[p1,L_len]; exact hs,by omega⟩
 refine⟨P,x,p2,p1,m2,fun h64=> ?_,?_⟩
 · match P,p2,p1 with
   | [],_,_=>simp
   | [a],_,_=>simp
   | a::b::P,p2,p1 =>
    have:=p2.adj.1
    have e:=congrArg List.length p1
    rw[Tbo,Tbo]at e
    simp only[List.length_append,L_len]at e
    omega
 · have htk: (strs P).take P.length=strs P:=List.take_of_length_le (by simp)
   rw[Tah _ A_rope_made _ rfl rfl rfl]
   simp(disch:=omega)[A_rope_made,p4,m1,htk]
def Rp (r:PV)(s:ByteArray):Prop:=∃ x P,r= .pt [x]/\RepT x P/\okP P/\flat P=L s/\s.size<1073741824
theorem Rp.val {r:PV}{s:ByteArray}(h:Rp r s):valid (L s)=true:=by
 obtain⟨x,P,_,_,h1,h2,_⟩:=h
 rw[← h2]; exact Try P fun x hx=> (h1.val x hx).1
theorem Rp.size {r:PV}{s:ByteArray}(h:Rp r s):s.size<1073741824:=by
 obtain⟨_,_,_,_,_,_,h⟩:=h; exact h
theorem Rp.make {x:PV}{P:List ByteArray}{s:ByteArray}(h1:RepT x P)(h2:okP P)(h3:flat P=L s)(h4:s.size<1073741824):Rp (.pt [x]) s:= ⟨x,P,rfl,h1,h2,h3,h4⟩
theorem ropeNew (s:ByteArray)(hs:s.size<268435456): (20000< (cleanS s).size/\Run (EX cp) 72 [.sc (.string s)]=some (.val (.tu [.sc (.pointer none),pi 13]))) ∨
 ((cleanS s).size<=20000/\∃ r,Rp r (cleanS s)/\Run (EX cp) 72 [.sc (.string s)]=some (.val (.tu [r,pi 0]))):=by
 have d1:=utfClean (cp:=cp) s (by omega)
 have e:L (cleanS s)=clean (L s):=L_mk _
 have hcl:=Tkf (L s)
 rw[L_len,← e,L_len]at hcl
 rw[Tah _ A_rope_New _ rfl rfl rfl]
 by_cases c: (cleanS s).size<=20000
 · right
   obtain⟨P,x,m1,m2,m3,_,m4⟩:=ropeMade (cp:=cp) (cleanS s) (by rw[e]; exact Tdr _) (by omega)
   refine⟨c,.pt [x],Rp.make m3 m1 m2 (by omega),?_⟩
   simp(disch:=omega)[A_rope_New,d1,m4,c,Taa,Tad]
 · left
   refine⟨by omega,?_⟩
   simp(disch:=omega)[A_rope_New,d1,c,Taa,Tad]
end Go.Proofs.YtjpibniecllafaaGreat.AM
end
section
namespace Go.Proofs.YtjpibniecllafaaGreat.AM
open Go Go.Proofs.YtjpibniecllafaaGreat.U
theorem Tk0 (t:ByteArray)(x y:List UInt8)(h:L t=x++y)(hx:valid x=true)(hy:valid y=true):edge t (x.length:Nat)=true:=by
 have hl:t.size=x.length+y.length:=by rw[← L_len,h,List.length_append]
 refine T2d (by omega) (by omega) ?_ ?_
 · rw[Int.toNat_natCast,h,List.take_left']
   · exact hx
   · rfl
 · rw[Int.toNat_natCast,h,List.drop_left']
   · exact hy
   · rfl
theorem Tjr (a b:List At):tl (a++b)=tl a++tl b:=by simp[tl]
theorem Tzt (a:At):tl [a]=L a.txt:=by simp[tl]
theorem Tvs (a b:List At):szN (a++b)=szN a+szN b:=by simp[szN]
theorem T2s (a:At):szN [a]=a.txt.size:=by simp[szN]
theorem okTx.left {a b:List At}(h:okTx (a++b)):okTx a:=fun x hx=>h x (List.mem_append_left _ hx)
theorem Tf9:∀ {l:List At},okTx l->l.length<=szN l
 | [],h=>by simp
 | a::l,h=>by
  have h1:=h.size a (List.mem_cons_self ..)
  have h2:=Tf9 (l:=l) fun b hb=>h b (List.mem_cons_of_mem _ hb)
  have h3:szN (a::l)=a.txt.size+szN l:=by simp[szN]
  rw[List.length_cons]; omega
theorem Tn5:∀ l:List At,szs l= (szN l:Int)
 | []=>rfl
 | a::l=>by
  have:=Tn5 l
  have h3:szN (a::l)=a.txt.size+szN l:=by simp[szN]
  have h4:szs (a::l)=a.txt.size+szs l:=by simp[szs]
  rw[h3,h4,this]; omega
theorem Tvt {l m:List At}(h: (l.map fun a=>a.txt)=m.map fun a=>a.txt):tl l=tl m:=by unfold tl; rw[h]
theorem Tr9 {a:At}{c:Int}(h:a.rv=1/\a.gr=1/\a.cuts= [(c,2)])(r:Int)(h1:1<=r)(hr:r<c):a.vis r []=true:=by
 unfold At.vis
 have e1:holdsF 1 []=true:=by decide
 have e2:¬ c<=r:=by omega
 rw[h.1,h.2.1,h.2.2,e1]
 simp[h1,e2]
structure ErA (A:List At):Prop where
 ok:okTx A
 new:∀ a∈A,a.rv=1/\a.gr=1/\a.cuts= []
 sz:szN A<=60
structure ErSt (A:List At) (i:Nat) (E:Eng):Prop where
 er:Era A i E.l
 hU:E.U=List.replicate (i+2) []
 hfl:E.fl=0
 hG:E.G=if i=0 then[1]else[1,2]
 hF:E.F= []
theorem Era.len {A l:List At}{i:Nat}(h:Era A i l)(hi:i<=A.length):l.length=A.length:=by
 obtain⟨Q,h1,h2,_⟩:=h
 have h3:=congrArg List.length h2
 rw[List.length_map,List.length_map,List.length_drop]at h3
 rw[h1,List.length_append,List.length_take,h3]; omega
theorem Era.ok {A l:List At}{i:Nat}(hA:okTx A)(h:Era A i l):okTx l:=by
 obtain⟨Q,h1,h2,_⟩:=h
 intro a ha
 rw[h1]at ha
 rcases List.mem_append.1 ha with h | h
 · exact hA a (List.mem_of_mem_take h)
 · have:a.txt∈ (A.drop (A.length-i)).map fun a=>a.txt:=by rw[← h2]; exact List.mem_map_of_mem h
   obtain⟨b,hb,e⟩:=List.mem_map.1 this
   obtain⟨v,h5,h6⟩:=hA b (List.mem_of_mem_drop hb)
   exact⟨v,h5,by rw[← e,h6]⟩
theorem Era.txt {A l:List At}{i:Nat}(hA:ErA A)(h:Era A i l)(r:Int)(hr: (i:Int)+1<=r):txtF r [] l=tl (A.take (A.length-i)):=by
 obtain⟨Q,h1,h2,h3⟩:=h
 rw[h1]
 refine Tmg r [] _ _ (fun a ha=> ?_) fun a ha=> ?_
 · exact Teh (hA.new a (List.mem_of_mem_take ha)) r (by omega) [] (by decide)
 · obtain⟨q1,q2,c,q3,q4,q5⟩:=h3 a ha
   exact Tdf ⟨q1,q2,q3⟩ r (by omega)
theorem Era.txtU {A l:List At}{i:Nat}(hA:ErA A)(h:Era A i l)(r:Int)(hr:1<=r):txtF r [2] l=tl A:=by
 obtain⟨Q,h1,h2,h3⟩:=h
 have hall:∀ a∈l,a.vis r [2]=true:=by
  intro a ha
  rw[h1]at ha
  rcases List.mem_append.1 ha with h | h
  · exact Teh (hA.new a (List.mem_of_mem_take h)) r (by omega) [2] (by decide)
  · obtain⟨q1,q2,c,q3,q4,q5⟩:=h3 a h
    exact Tif ⟨q1,q2,q3⟩ r hr
 rw[Tfg r [2] l hall]
 apply Tvt
 rw[h1,List.map_append,h2,← List.map_append,List.take_append_drop]
theorem ErSt.ok {A:List At}{i:Nat}{E:Eng}(hA:ErA A)(h:ErSt A i E)(hi:i<=A.length):EOk E:=by
 have h60:=Tf9 hA.ok
 have hsz:=hA.sz
 have hl:=h.er.len hi
 obtain⟨l,U,fl,G,F⟩:=E
 obtain⟨e1,e2,e3,e4,e5⟩:=h
 simp only at e1 e2 e3 e4 e5 hl
 subst e2 e3 e5
 refine⟨by show l.length<=4000; omega,e1.ok hA.ok,fun a ha=> ?_,by simp,by simp,by simp; omega,fun x hx=> ?_⟩
 · have hc:a.cuts.length<=1:=by
    obtain⟨Q,h1,h2,h3⟩:=e1
    replace ha:a∈l:=ha
    rw[h1]at ha
    rcases List.mem_append.1 ha with h | h
    · rw[(hA.new a (List.mem_of_mem_take h)).2.2]; simp
    · obtain⟨q1,q2,c,q3,_⟩:=h3 a h
      rw[q3]; simp
   simp; omega
 · have:x= []:=List.eq_of_mem_replicate hx
   rw[this]; simp; omega
theorem ErSt.ut {A:List At}{i:Nat}{E:Eng}(h:ErSt A i E)(r:Int):E.ut r= []:=by
 unfold Eng.ut; rw[h.hU]; exact Tfi _ _ _
theorem ErSt.at_ {A:List At}{i:Nat}{E:Eng}(hA:ErA A)(h:ErSt A i E)(r:Int)(hr: (i:Int)+1<=r):L (E.textAt r)=tl (A.take (A.length-i)):=by
 unfold Eng.textAt
 rw[h.ut,show L (txtS r [] E.l)=txtF r [] E.l from L_mk _]
 exact h.er.txt hA r hr
theorem ErSt.hd {A:List At}{i:Nat}{E:Eng}(h:ErSt A i E):E.fl+ (E.U.length:Int)-1=i+1:=by
 rw[h.hfl,h.hU,List.length_replicate]; omega
theorem ErSt.txt {A:List At}{i:Nat}{E:Eng}(hA:ErA A)(h:ErSt A i E):L E.txt=tl (A.take (A.length-i)):=by
 rw[← h.at_ hA (i+1) (Int.le_refl _)]
 show L (headT E.l E.U E.fl)=_
 unfold headT Eng.textAt Eng.ut
 rw[h.hd]
theorem ErSt.size {A:List At}{i:Nat}{E:Eng}(hA:ErA A)(h:ErSt A i E):E.txt.size=szN (A.take (A.length-i)):=by
 rw[← L_len,h.txt hA,Tdg]
theorem Tk1 (A:List At)(k:Nat):szN (A.take k)<=szN A:=by
 have:=Tvs (A.take k) (A.drop k)
 rw[List.take_append_drop]at this; omega
end Go.Proofs.YtjpibniecllafaaGreat.AM
end
section
namespace Go.Proofs.YtjpibniecllafaaGreat.AM
open Go Go.Proofs.YtjpibniecllafaaGreat.U
variable {cp:List PV->Option Ret}
section
variable (base:Int)(R:List (List PV))(n:Nat)(size to:Int)(i:Nat)(xf xt:Int)(xs:ByteArray)(res:Option (Out×St))
variable (hR:R.length=n)(hn:n<=60)(hi:i<n)(h1:R[i]?=some [pi xf,pi xt,.sc (.string xs)])
include hR hn hi h1
theorem T4c (hi0:i=0)(he:Run (EX cp) 177 [.st [pi xf,pi xt,.sc (.string xs)],pi base,pi to,pb false,pb false]=some (.val (pb false))):Code (EX cp) L_delta_Is_0 (dS base R n size to i)=some (.ret,dX):=by
 subst hi0
 have _h:=And.intro hR hn
 unfold dS dX
 rw[L_delta_Is_0,Taf]
 simp(maxSteps:=1000000) (disch:=omega) [hR,hi,h1,he,Taa,Tad,Tab,Taj,-getElem?_pos]
theorem T2t (hi0:i=0)(he:Run (EX cp) 177 [.st [pi xf,pi xt,.sc (.string xs)],pi base,pi to,pb false,pb false]=some (.val (pb true)))(hc:Run (EX cp) 176 [.st [pi xf,pi xt,.sc (.string xs)]]=some (.val (pb true)))(b1:0<=xf)(b2:xf<=xt)(b3:xt<=20000)(b4:xs.size<=20000)(s1:0<=size)(s2:size<=20000)(hz:¬ size+ (xt-xf+xs.size)<=20000):Code (EX cp) L_delta_Is_0 (dS base R n size to i)=some (.ret,dX):=by
 subst hi0
 have _h:=And.intro hR hn
 unfold dS dX
 rw[L_delta_Is_0,Taf]
 simp(maxSteps:=1000000) (disch:=omega) [hR,hi,h1,he,hc,hz,Taa,Tad,Tab,Taj,-getElem?_pos]
theorem Tvu (hi0:i=0)(he:Run (EX cp) 177 [.st [pi xf,pi xt,.sc (.string xs)],pi base,pi to,pb false,pb false]=some (.val (pb true)))(hc:Run (EX cp) 176 [.st [pi xf,pi xt,.sc (.string xs)]]=some (.val (pb true)))(b1:0<=xf)(b2:xf<=xt)(b3:xt<=20000)(b4:xs.size<=20000)(s1:0<=size)(s2:size<=20000)(hz:size+ (xt-xf+xs.size)<=20000)(ih:Code (EX cp) L_delta_Is_0 (dS base R n (size+ (xt-xf+xs.size)) xt (i+1))=res):Code (EX cp) L_delta_Is_0 (dS base R n size to i)=res:=by
 subst hi0
 have _h:=And.intro hR hn
 rw[← ih]
 unfold dS
 conv=>lhs; rw[L_delta_Is_0,Taf]
 rw[show((0+1:Nat):Int)= (0:Int)+1 by omega]
 simp(maxSteps:=1000000) (disch:=omega) [hR,hi,h1,he,hc,hz,Taa,Tad,Tab,Taj,-getElem?_pos]
 rw[L_delta_Is_0]
end
end Go.Proofs.YtjpibniecllafaaGreat.AM
end
section
namespace Go.Proofs.YtjpibniecllafaaGreat.AM
open Go Go.Proofs.YtjpibniecllafaaGreat.U
variable {cp:List PV->Option Ret}
section
variable (base:Int)(R:List (List PV))(n:Nat)(size to:Int)(i:Nat)(xf xt:Int)(xs:ByteArray)(res:Option (Out×St))
variable (hR:R.length=n)(hn:n<=60)(hi:i<n)(h1:R[i]?=some [pi xf,pi xt,.sc (.string xs)])
include hR hn hi h1
theorem T2u (hi0:i=0)(he:Run (EX cp) 177 [.st [pi xf,pi xt,.sc (.string xs)],pi base,pi to,pb false,pb false]=some (.val (pb true)))(hc:Run (EX cp) 176 [.st [pi xf,pi xt,.sc (.string xs)]]=some (.val (pb false)))(b1:0<=xf)(b2:xf<=xt)(b3:xt<=20000)(b4:xs.size<=20000)(s1:0<=size)(s2:size<=20000)(hz:¬ size+ (xt-xf+xs.size)<=20000):Code (EX cp) L_delta_Is_0 (dS base R n size to i)=some (.ret,dX):=by
 subst hi0
 have _h:=And.intro hR hn
 unfold dS dX
 rw[L_delta_Is_0,Taf]
 simp(maxSteps:=1000000) (disch:=omega) [hR,hi,h1,he,hc,hz,Taa,Tad,Tab,Taj,-getElem?_pos]
theorem Tvv (hi0:i=0)(he:Run (EX cp) 177 [.st [pi xf,pi xt,.sc (.string xs)],pi base,pi to,pb false,pb false]=some (.val (pb true)))(hc:Run (EX cp) 176 [.st [pi xf,pi xt,.sc (.string xs)]]=some (.val (pb false)))(b1:0<=xf)(b2:xf<=xt)(b3:xt<=20000)(b4:xs.size<=20000)(s1:0<=size)(s2:size<=20000)(hz:size+ (xt-xf+xs.size)<=20000)(ih:Code (EX cp) L_delta_Is_0 (dS base R n (size+ (xt-xf+xs.size)) to (i+1))=res):Code (EX cp) L_delta_Is_0 (dS base R n size to i)=res:=by
 subst hi0
 have _h:=And.intro hR hn
 rw[← ih]
 unfold dS
 conv=>lhs; rw[L_delta_Is_0,Taf]
 rw[show((0+1:Nat):Int)= (0:Int)+1 by omega]
 simp(maxSteps:=1000000) (disch:=omega) [hR,hi,h1,he,hc,hz,Taa,Tad,Tab,Taj,-getElem?_pos]
 rw[L_delta_Is_0]
end
end Go.Proofs.YtjpibniecllafaaGreat.AM
end
section
namespace Go.Proofs.YtjpibniecllafaaGreat.AM
open Go Go.Proofs.YtjpibniecllafaaGreat.U
variable {cp:List PV->Option Ret}
section
variable (base:Int)(R:List (List PV))(n:Nat)(size to:Int)(i:Nat)(xf xt:Int)(xs:ByteArray)(res:Option (Out×St))
variable (hR:R.length=n)(hn:n<=60)(hi:i<n)(h1:R[i]?=some [pi xf,pi xt,.sc (.string xs)])
include hR hn hi h1
theorem T4d (cy:Bool)(yf yt ys:PV)(hy:R[i-1]?=some [yf,yt,ys])(h0:0<i)(hcy:Run (EX cp) 176 [.st [yf,yt,ys]]=some (.val (pb cy)))(he:Run (EX cp) 177 [.st [pi xf,pi xt,.sc (.string xs)],pi base,pi to,pb true,pb cy]=some (.val (pb false))):Code (EX cp) L_delta_Is_0 (dS base R n size to i)=some (.ret,dX):=by
 have h0': (0:Int)< (i:Int):=by omega
 have ek: ((i:Int)-1).toNat=i-1:=by omega
 have e0: (0:Int)<= (i:Int)-1:=by omega
 have e01:1<=i:=by omega
 have e02: (1:Int)<= (i:Int):=by omega
 have _h:=And.intro hR hn
 unfold dS dX
 rw[L_delta_Is_0,Taf]
 simp(maxSteps:=1000000) (disch:=omega) [hR,hi,h1,he,hy,hcy,h0,h0',ek,e0,e01,e02,Taa,Tad,Tab,Taj,-getElem?_pos]
theorem T2v (cy:Bool)(yf yt ys:PV)(hy:R[i-1]?=some [yf,yt,ys])(h0:0<i)(hcy:Run (EX cp) 176 [.st [yf,yt,ys]]=some (.val (pb cy)))(he:Run (EX cp) 177 [.st [pi xf,pi xt,.sc (.string xs)],pi base,pi to,pb true,pb cy]=some (.val (pb true)))(hc:Run (EX cp) 176 [.st [pi xf,pi xt,.sc (.string xs)]]=some (.val (pb true)))(b1:0<=xf)(b2:xf<=xt)(b3:xt<=20000)(b4:xs.size<=20000)(s1:0<=size)(s2:size<=20000)(hz:¬ size+ (xt-xf+xs.size)<=20000):Code (EX cp) L_delta_Is_0 (dS base R n size to i)=some (.ret,dX):=by
 have h0': (0:Int)< (i:Int):=by omega
 have ek: ((i:Int)-1).toNat=i-1:=by omega
 have e0: (0:Int)<= (i:Int)-1:=by omega
 have e01:1<=i:=by omega
 have e02: (1:Int)<= (i:Int):=by omega
 have _h:=And.intro hR hn
 unfold dS dX
 rw[L_delta_Is_0,Taf]
 simp(maxSteps:=1000000) (disch:=omega) [hR,hi,h1,he,hc,hz,hy,hcy,h0,h0',ek,e0,e01,e02,Taa,Tad,Tab,Taj,-getElem?_pos]
end
end Go.Proofs.YtjpibniecllafaaGreat.AM
end
section
namespace Go.Proofs.YtjpibniecllafaaGreat.AM
open Go Go.Proofs.YtjpibniecllafaaGreat.U
variable {cp:List PV->Option Ret}
section
variable (base:Int)(R:List (List PV))(n:Nat)(size to:Int)(i:Nat)(xf xt:Int)(xs:ByteArray)(res:Option (Out×St))
variable (hR:R.length=n)(hn:n<=60)(hi:i<n)(h1:R[i]?=some [pi xf,pi xt,.sc (.string xs)])
include hR hn hi h1
theorem Tvw (cy:Bool)(yf yt ys:PV)(hy:R[i-1]?=some [yf,yt,ys])(h0:0<i)(hcy:Run (EX cp) 176 [.st [yf,yt,ys]]=some (.val (pb cy)))(he:Run (EX cp) 177 [.st [pi xf,pi xt,.sc (.string xs)],pi base,pi to,pb true,pb cy]=some (.val (pb true)))(hc:Run (EX cp) 176 [.st [pi xf,pi xt,.sc (.string xs)]]=some (.val (pb true)))(b1:0<=xf)(b2:xf<=xt)(b3:xt<=20000)(b4:xs.size<=20000)(s1:0<=size)(s2:size<=20000)(hz:size+ (xt-xf+xs.size)<=20000)(ih:Code (EX cp) L_delta_Is_0 (dS base R n (size+ (xt-xf+xs.size)) xt (i+1))=res):Code (EX cp) L_delta_Is_0 (dS base R n size to i)=res:=by
 have h0': (0:Int)< (i:Int):=by omega
 have ek: ((i:Int)-1).toNat=i-1:=by omega
 have e0: (0:Int)<= (i:Int)-1:=by omega
 have e01:1<=i:=by omega
 have e02: (1:Int)<= (i:Int):=by omega
 have _h:=And.intro hR hn
 rw[← ih]
 unfold dS
 conv=>lhs; rw[L_delta_Is_0,Taf]
 rw[show((i+1:Nat):Int)= (i:Int)+1 by omega]
 simp(maxSteps:=1000000) (disch:=omega) [hR,hi,h1,he,hc,hz,hy,hcy,h0,h0',ek,e0,e01,e02,Taa,Tad,Tab,Taj,-getElem?_pos]
 rw[L_delta_Is_0]
end
end Go.Proofs.YtjpibniecllafaaGreat.AM
end
section
namespace Go.Proofs.YtjpibniecllafaaGreat.AM
open Go Go.Proofs.YtjpibniecllafaaGreat.U
variable {cp:List PV->Option Ret}
section
variable (base:Int)(R:List (List PV))(n:Nat)(size to:Int)(i:Nat)(xf xt:Int)(xs:ByteArray)(res:Option (Out×St))
variable (hR:R.length=n)(hn:n<=60)(hi:i<n)(h1:R[i]?=some [pi xf,pi xt,.sc (.string xs)])
include hR hn hi h1
theorem T2w (cy:Bool)(yf yt ys:PV)(hy:R[i-1]?=some [yf,yt,ys])(h0:0<i)(hcy:Run (EX cp) 176 [.st [yf,yt,ys]]=some (.val (pb cy)))(he:Run (EX cp) 177 [.st [pi xf,pi xt,.sc (.string xs)],pi base,pi to,pb true,pb cy]=some (.val (pb true)))(hc:Run (EX cp) 176 [.st [pi xf,pi xt,.sc (.string xs)]]=some (.val (pb false)))(b1:0<=xf)(b2:xf<=xt)(b3:xt<=20000)(b4:xs.size<=20000)(s1:0<=size)(s2:size<=20000)(hz:¬ size+ (xt-xf+xs.size)<=20000):Code (EX cp) L_delta_Is_0 (dS base R n size to i)=some (.ret,dX):=by
 have h0': (0:Int)< (i:Int):=by omega
 have ek: ((i:Int)-1).toNat=i-1:=by omega
 have e0: (0:Int)<= (i:Int)-1:=by omega
 have e01:1<=i:=by omega
 have e02: (1:Int)<= (i:Int):=by omega
 have _h:=And.intro hR hn
 unfold dS dX
 rw[L_delta_Is_0,Taf]
 simp(maxSteps:=1000000) (disch:=omega) [hR,hi,h1,he,hc,hz,hy,hcy,h0,h0',ek,e0,e01,e02,Taa,Tad,Tab,Taj,-getElem?_pos]
end
end Go.Proofs.YtjpibniecllafaaGreat.AM
end
section
namespace Go.Proofs.YtjpibniecllafaaGreat.AM
open Go Go.Proofs.YtjpibniecllafaaGreat.U
variable {cp:List PV->Option Ret}
section
variable (base:Int)(R:List (List PV))(n:Nat)(size to:Int)(i:Nat)(xf xt:Int)(xs:ByteArray)(res:Option (Out×St))
variable (hR:R.length=n)(hn:n<=60)(hi:i<n)(h1:R[i]?=some [pi xf,pi xt,.sc (.string xs)])
include hR hn hi h1
theorem Tvx (cy:Bool)(yf yt ys:PV)(hy:R[i-1]?=some [yf,yt,ys])(h0:0<i)(hcy:Run (EX cp) 176 [.st [yf,yt,ys]]=some (.val (pb cy)))(he:Run (EX cp) 177 [.st [pi xf,pi xt,.sc (.string xs)],pi base,pi to,pb true,pb cy]=some (.val (pb true)))(hc:Run (EX cp) 176 [.st [pi xf,pi xt,.sc (.string xs)]]=some (.val (pb false)))(b1:0<=xf)(b2:xf<=xt)(b3:xt<=20000)(b4:xs.size<=20000)(s1:0<=size)(s2:size<=20000)(hz:size+ (xt-xf+xs.size)<=20000)(ih:Code (EX cp) L_delta_Is_0 (dS base R n (size+ (xt-xf+xs.size)) to (i+1))=res):Code (EX cp) L_delta_Is_0 (dS base R n size to i)=res:=by
 have h0': (0:Int)< (i:Int):=by omega
 have ek: ((i:Int)-1).toNat=i-1:=by omega
 have e0: (0:Int)<= (i:Int)-1:=by omega
 have e01:1<=i:=by omega
 have e02: (1:Int)<= (i:Int):=by omega
 have _h:=And.intro hR hn
 rw[← ih]
 unfold dS
 conv=>lhs; rw[L_delta_Is_0,Taf]
 rw[show((i+1:Nat):Int)= (i:Int)+1 by omega]
 simp(maxSteps:=1000000) (disch:=omega) [hR,hi,h1,he,hc,hz,hy,hcy,h0,h0',ek,e0,e01,e02,Taa,Tad,Tab,Taj,-getElem?_pos]
 rw[L_delta_Is_0]
end
end Go.Proofs.YtjpibniecllafaaGreat.AM
end
