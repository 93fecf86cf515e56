/- Made by pack.py: more of it. No condition but what each says. -/
import Derived.Test.YtjpibniecllafaaGreatC17
import Derived.Test.YtjpibniecllafaaGreatC13
import Derived.Test.YtjpibniecllafaaGreatC19
import Derived.Test.YtjpibniecllafaaGreatC18
set_option linter.unusedSimpArgs false
set_option linter.unusedVariables false
set_option maxHeartbeats 16000000
section
namespace Go.Proofs.YtjpibniecllafaaGreat.AM
open Go Go.Proofs.YtjpibniecllafaaGreat.U
attribute [local simp] cellR thereV RV.sv innE inlE reach pos subH SV.mapr RV.mapr Ob.mapr SV.refs RV.id? RV.ref Ob.refs noRow shnE shrE okK closeB freshs at0 newS leftS finishS oneS manyS allP sameFz Ob.noPin startS entryS List.range_succ List.filterMap_cons List.filterMap_nil SV.rv fzvs fzv liveV liveR rcellss rcells fillQ fixN RV.isNil revO canon pinsOf pinOb canF canP
variable {cp:List PV->Option Ret}
theorem runSpIs0 (n:Int):Run (EX cp) 137 [.sl 3 [],pi n]=some (.val (pb true)):=by
 rw[Tah _ A_spans_Is _ rfl rfl rfl]
 by_cases c:20000<n
 · simp(disch:=omega)[A_spans_Is,L_spans_Is_0,Taf,c,Taj,if_no,Taa,Tad]
 · simp(disch:=omega)[A_spans_Is,L_spans_Is_0,Taf,c,Taj,if_no,Taa,Tad]
theorem runSortS0 (f:FuncId):Run (EX cp) 217 [.sl 3 [],.fn f []]=some (.val (.tu [])):=by
 have i1:Run (EX cp) 235 [.sl 3 [],pi 0,pi 0,.fn f []]=some (.val (.tu [])):=by
  rw[Tah _ A_slices_insertionSortCmpFunc_spans_run_int _ rfl rfl rfl]
  simp(disch:=omega)[A_slices_insertionSortCmpFunc_spans_run_int,L_slices_insertionSortCmpFunc_spans_run_int_1,Taf,Tab]
 have i2:Run (EX cp) 228 [.sl 3 [],pi 0,.fn f []]=some (.val (.tu [])):=by
  rw[Tah _ A_slices_stableCmpFunc_spans_run_int _ rfl rfl rfl]
  simp(disch:=omega)[A_slices_stableCmpFunc_spans_run_int,L_slices_stableCmpFunc_spans_run_int_0,L_slices_stableCmpFunc_spans_run_int_2,Taf,i1]
 rw[Tah _ A_slices_SortStableFunc_spans_row_int_spans_run_int _ rfl rfl rfl]
 simp(disch:=omega)[A_slices_SortStableFunc_spans_row_int_spans_run_int,i2]
theorem runTold0:Run (EX cp) 140 [.sl 3 []]=some (.val (.tu [.sl 3 [],pi 0])):=by
 have s0:=runSortS0 (cp:=cp) 218
 have s1:Run (EX cp) 189 [.sl 3 []]=some (.own 237 3 []):=by
  rw[Tah _ A_spans_row_int_sorted _ rfl rfl rfl]
  simp(disch:=omega)[A_spans_row_int_sorted,L_spans_row_int_sorted_0,Taf,s0]
 rw[Tah _ A_spans_told _ rfl rfl rfl]
 simp(disch:=omega)[A_spans_told,L_spans_told_0,Taf,s1]
theorem runSpEdit0 (base:Int)(l:List Ch)(hl:l.length<=9223372036854775807)(hs:∀ x∈l,x.s.size<1099511627776)(hd:isD base l=true):Run (EX cp) 78 [.sl 3 [],.st [pi base,.sl 3 (chs l)]]=some (.val (.tu [.sl 3 [],pi 0])):=by
 have d1:=runIs (cp:=cp) base l hl hs
 rw[hd]at d1
 have d2:=runSpIs0 (cp:=cp) base
 have d3:=runTold0 (cp:=cp)
 have kL:=fun st=>LC_of (EX cp) L_spans_Edit_0 st _ rfl
 have kM:=fun st=>Tbu (EX cp) L_spans_Edit_0 st _ rfl
 rw[Tah _ A_spans_Edit _ rfl rfl rfl]
 generalize chs l=R at *
 simp(disch:=omega)[A_spans_Edit,d1,d2,d3,kL,kM]
end Go.Proofs.YtjpibniecllafaaGreat.AM
end
section
namespace Go.Proofs.YtjpibniecllafaaGreat.AM
open Go Go.Proofs.YtjpibniecllafaaGreat.U
variable {cp:List PV->Option Ret}
def keptF (e:List Ch):Int:= (e.map fun x=>x.t-x.f).sum
def putF (e:List Ch):Int:= (e.map fun x=> (x.s.size:Int)).sum
theorem Tv3 (R:List (List PV))(n i:Nat)(a b f t:Int)(s:ByteArray)(res:Option (Out×St))(hR:R.length=n)(hn:n<=60)(hi:i<n)(h1:R[i]?=some [pi f,pi t,.sc (.string s)])
 (ha: -100000000<=a/\a<=100000000) (hb: -100000000<=b/\b<=100000000) (hf:0<=f/\f<=t/\t<=20000/\s.size<=20000)
 (ih:Code (EX cp) L_delta_sums_0 ⟨[(4,.p (pi (a+ (t-f)))),(5,.p (pi (b+s.size))),(12,.p (.sl 3 R)),(13,.p (pi n)),(14,.p (pi ((i:Int)+1)))],[]⟩=res) :
 Code (EX cp) L_delta_sums_0 ⟨[(4,.p (pi a)),(5,.p (pi b)),(12,.p (.sl 3 R)),(13,.p (pi n)),(14,.p (pi i))],[]⟩=res:=by
 rw[← ih]
 conv=>lhs; rw[L_delta_sums_0,Taf]
 simp(disch:=omega)[hR,hi,h1,Taa,Tad,Tab,Taj,-getElem?_pos]
 rw[L_delta_sums_0]
theorem Tmu (e:List Ch)(he:e.length<=60)(bd:∀ x∈e,0<=x.f/\x.f<=x.t/\x.t<=20000/\x.s.size<=20000):∀(m i:Nat) (a b:Int),m+i=e.length->0<=a->a<=20000*i->0<=b->b<=20000*i ->
 Code (EX cp) L_delta_sums_0 ⟨[(4,.p (pi a)),(5,.p (pi b)),(12,.p (.sl 3 (chs e))),(13,.p (pi e.length)),(14,.p (pi i))],[]⟩ =
  some (.ex 0,⟨[(4,.p (pi (a+keptF (e.drop i)))),(5,.p (pi (b+putF (e.drop i)))),(12,.p (.sl 3 (chs e))),(13,.p (pi e.length)),(14,.p (pi e.length)),(15,.p (pb false))],[]⟩)/\0<=keptF (e.drop i)/\keptF (e.drop i)<=20000*m/\0<=putF (e.drop i)/\putF (e.drop i)<=20000*m
 | 0,i,a,b,hm,_,_,_,_=>by
  obtain rfl:i=e.length:=by omega
  have e1:keptF (e.drop e.length)=0:=by rw[List.drop_length]; rfl
  have e2:putF (e.drop e.length)=0:=by rw[List.drop_length]; rfl
  rw[e1,e2,Int.add_zero,Int.add_zero]
  refine⟨?_,by omega,by omega,by omega,by omega⟩
  rw[L_delta_sums_0,Taf]
  generalize chs e=R at *
  generalize e.length=n at *
  simp(disch:=omega)[Tad,-getElem?_pos]
 | m+1,i,a,b,hm,q1,q2,q3,q4=>by
  have hi:i<e.length:=by omega
  obtain⟨b1,b2,b3,b4⟩:=bd _ (List.getElem_mem hi)
  obtain⟨ih,g1,g2,g3,g4⟩:=Tmu e he bd m (i+1) (a+ (e[i].t-e[i].f)) (b+e[i].s.size) (by omega) (by omega) (by omega) (by omega) (by omega)
  have e1:keptF (e.drop i)= (e[i].t-e[i].f)+keptF (e.drop (i+1)):=by rw[List.drop_eq_getElem_cons hi]; unfold keptF; rw[List.map_cons,List.sum_cons]
  have e2:putF (e.drop i)=e[i].s.size+putF (e.drop (i+1)):=by rw[List.drop_eq_getElem_cons hi]; unfold putF; rw[List.map_cons,List.sum_cons]
  rw[e1,e2]
  refine⟨?_,by omega,by omega,by omega,by omega⟩
  rw[← Int.add_assoc,← Int.add_assoc]
  exact Tv3 (chs e) e.length i a b _ _ _ _ (Tcv e) he hi (Tdd e i hi) (by omega) (by omega) ⟨b1,b2,b3,b4⟩ ih
theorem runSize (base:Int)(e:List Ch)(hd:isD base e=true):Run (EX cp) 142 [.st [pi base,.sl 3 (chs e)]]=some (.val (pi (keptF e+putF e))):=by
 obtain⟨b0,b1,b2,b3⟩:=Tde hd
 have bd:=Teg base b1 e 0 0 none b3 (Int.le_refl _)
 have d1:=runIs (cp:=cp) base e (by omega) (fun x hx=>by have:=bd x hx; omega)
 rw[hd]at d1
 obtain⟨lp,g1,g2,g3,g4⟩:=Tmu (cp:=cp) e b2 bd e.length 0 0 0 (by omega) (by omega) (by omega) (by omega) (by omega)
 rw[List.drop_zero,Int.zero_add,Int.zero_add,show((0:Nat):Int)=0 from rfl]at lp
 rw[List.drop_zero]at g1 g2 g3 g4
 have hbl:=Tcv e
 have d2:Run (EX cp) 190 [.st [pi base,.sl 3 (chs e)]]=some (.val (.tu [pi (keptF e),pi (putF e)])):=by
  rw[Tah _ A_delta_sums _ rfl rfl rfl]
  generalize chs e=R at *
  simp(disch:=omega)[A_delta_sums,d1,lp,hbl]
 rw[Tah _ A_delta_Size _ rfl rfl rfl]
 generalize chs e=R at *
 simp(disch:=omega)[A_delta_Size,d2,Tab]
theorem runBrIs0 (n:Int):Run (EX cp) 141 [.sl 1 [],pi n]=some (.val (pb true)):=by
 rw[Tah _ A_breaks_Is _ rfl rfl rfl]
 by_cases c:20000<n
 · simp(disch:=omega)[A_breaks_Is,L_breaks_Is_0,Taf,c,Taj,if_no,Taa,Tad]
 · simp(disch:=omega)[A_breaks_Is,L_breaks_Is_0,Taf,c,Taj,if_no,Taa,Tad]
theorem runBrEdit0 (base:Int)(e:List Ch)(hd:isD base e=true):Run (EX cp) 79 [.sl 1 [],.st [pi base,.sl 3 (chs e)]]=some (.val (.tu [.sl 1 [],pi 0])):=by
 obtain⟨b0,b1,b2,b3⟩:=Tde hd
 have bd:=Teg base b1 e 0 0 none b3 (Int.le_refl _)
 have d1:=runIs (cp:=cp) base e (by omega) (fun x hx=>by have:=bd x hx; omega)
 rw[hd]at d1
 have d2:=runBrIs0 (cp:=cp) base
 have d3:=runSize (cp:=cp) base e hd
 rw[Tah _ A_breaks_Edit _ rfl rfl rfl]
 generalize chs e=R at *
 simp(disch:=omega)[A_breaks_Edit,L_breaks_Edit_0,Taf,d1,d2,d3]
end Go.Proofs.YtjpibniecllafaaGreat.AM
end
section
namespace Go.Proofs.YtjpibniecllafaaGreat.AM
open Go Go.Proofs.YtjpibniecllafaaGreat.U
attribute [local simp] cellR thereV RV.sv innE inlE reach pos subH SV.mapr RV.mapr Ob.mapr SV.refs RV.id? RV.ref Ob.refs noRow shnE shrE okK closeB freshs at0 newS leftS finishS oneS manyS allP sameFz Ob.noPin startS entryS List.range_succ List.filterMap_cons List.filterMap_nil SV.rv fzvs fzv liveV liveR rcellss rcells fillQ fixN RV.isNil revO
variable {cp:List PV->Option Ret}
def vw2 (E E0:Eng)(x x0:List PV)(sel sel0:List (List PV)):List (Nat×Ob):= [(0,.gr 90 5 [[.mp 2 0 0,.p (.pt x),.p (.sl 2 sel),.p (.sl 3 []),.p (.sl 1 [])]]),(1,.gr 90 5 [[.mp 3 0 0,.p (.pt x0),.p (.sl 2 sel0),.p (.sl 3 []),.p (.sl 1 [])]]),
 (2,.gr 100 2 [[.p (.sl 5 (ats E.l)),.mo 4]]),(3,.gr 100 2 [[.p (.sl 5 (ats E0.l)),.mo 5]]),(4,.mpo E.U E.fl E.G E.F),(5,.mpo E0.U E0.fl E0.G E0.F)]
theorem vwFollows (E E0:Eng)(x x0:List PV)(sel0:List (List PV))(sel:List (Int×Int))(to_ fr:Int)(hto:to_=E.fl+E.U.length-1)(hfr:fr=E0.fl+E0.U.length-1)(base:Int)(e:List Ch)
 (hb:Run (EX cp) 1000076 [.hp [.mp 0 0 0,.p (pi fr),.p (pi to_)] E.hp]=some (.shr (.p (.tu [.st [pi base,.sl 3 (chs e)],pi 0])) E.hp)) (hd:isD base e=true)
 (h1:1<=sel.length) (hl:sel.length<=8) (hin:∀ r∈sel,insB base r=true) (ho:apB (sel.map (mv2 base e))=true) :
 Run (EX cp) 1000045 [.hp [.mp 0 0 0,.mp 1 0 0] (vw2 E E0 x x0 (cutsL sel) sel0)]=some (.shr (.p (pi 0)) (vw2 E E0 x x0 (cutsL (sel.map (mv2 base e))) sel0)):=by
 have c1:=vwHead (cp:=cp) E (.pt x) (cutsL sel) [] []
 have c2:=vwHead (cp:=cp) E0 (.pt x0) sel0 [] []
 obtain⟨b0,b1,b2,b3⟩:=Tde hd
 have bd:=Teg base b1 e 0 0 none b3 (Int.le_refl _)
 have c3:=runRegMove (cp:=cp) base e hd sel h1 hl hin ho
 have c4:=runSpEdit0 (cp:=cp) base e (by omega) (fun x hx=>by have:=bd x hx; omega) hd
 have c5:=runBrEdit0 (cp:=cp) base e hd
 rw[← hto]at c1
 rw[← hfr]at c2
 unfold vwH at c1 c2
 unfold vw2
 simp only[Eng.hp,engH]at hb
 generalize cutsL (sel.map (mv2 base e))=O at *
 generalize cutsL sel=S at *
 generalize chs e=D at *
 rw[Tau _ 45 A_view_View_follows _ _ (by decide) (by decide) rfl rfl rfl rfl rfl (by simp)]
 simp(maxSteps:=2000000) (disch:=omega) [A_view_View_follows,c1,c2,c3,c4,c5,hb]
def vwN (E0 E:Eng)(x:List PV)(sel:List (List PV)):List (Nat×Ob):= [(0,.gr 90 5 [[.mp 3 0 0,.p (.pt x),.p (.sl 2 sel),.p (.sl 3 []),.p (.sl 1 [])]]),(1,.gr 100 2 [[.p (.sl 5 (ats E0.l)),.mo 2]]),(2,.mpo E0.U E0.fl E0.G E0.F),(3,.gr 100 2 [[.p (.sl 5 (ats E.l)),.mo 4]]),(4,.mpo E.U E.fl E.G E.F)]
theorem vwDo (E E':Eng)(H:EOk E)(x0 x1:List PV)(S S':List (List PV))(hS:S.length<=100)(hS2:∀ c∈S,c.length=2)(k b g rk:Int)(c gs rs:List (List PV))(p:ByteArray)(s1 s2 s3:Int)(hk:k=5∨k=6)
 (h1:Run (EX cp) 1000044 [.hp [.mp 0 0 0,.p (.st (actV k b g rk c gs rs p s1 s2 s3))] (vwH E (.pt x0) S [] [])]=some (.shr (.p (pi 0)) (vwE E E' (.pt x0) S [] [])))
 (h2:Run (EX cp) 1000045 [.hp [.mp 0 0 0,.mp 1 0 0] (vw2 E' E x0 x0 S S)]=some (.shr (.p (pi 0)) (vw2 E' E x0 x0 S' S)))
 (h3:Run (EX cp) 1000041 [.hp [.mp 0 0 0] (vwH E' (.pt x0) S' [] [])]=some (.shr (.mp 0 0 0) (vwH E' (.pt x1) S' [] []))) :
 Run (EX cp) 1000015 [.hp [.mp 0 0 0,.p (.st (actV k b g rk c gs rs p s1 s2 s3))] (vwH E (.pt x0) S [] [])]=some (.shr (.p (.tu [pi (E'.fl+E'.U.length-1),pi 0])) (vwN E E' x1 S')):=by
 have c1:=vwCopy (cp:=cp) E (.pt x0) S [] [] x0 rfl H hS hS2 (by simp) (by simp)
 have c2:=vwHead (cp:=cp) E' (.pt x1) S' [] []
 have c3:=Tlz (cp:=cp)
 unfold vwH at c1 c2 h1 h3 ⊢
 unfold vwE at h1
 unfold vw2 at h2
 unfold vwN
 unfold actV at h1 ⊢
 rw[Tau _ 15 A_view_View_Do _ _ (by decide) (by decide) rfl rfl rfl rfl rfl (by simp)]
 rcases hk with rfl | rfl
 · simp(maxSteps:=2000000) (disch:=omega) [A_view_View_Do,c1,c2,c3,h1,h2,h3,Taa,Tad]
 · simp(maxSteps:=2000000) (disch:=omega) [A_view_View_Do,c1,c2,c3,h1,h2,h3,Taa,Tad]
theorem vwNew (H:EOk Eng.new):∃ x,Rp (.pt x) Eng.new.txt/\Run (EX cp) 1000014 [.hp [] []]=some (.shr (.mp 0 0 0) (vwH Eng.new (.pt x) (cutsL [(0,0)]) [] [])):=by
 have h0:Eng.new.txt.size<=20000:=by decide
 obtain⟨x,hx,h1⟩:=vwTold (cp:=cp) Eng.new H h0 (.sc (.pointer none)) (cutsL [(0,0)]) [] []
 refine⟨x,hx,?_⟩
 have h2:=engNew (cp:=cp)
 simp only[cutsL,cutV,List.map_cons,List.map_nil]at h1 ⊢
 simp only[Eng.new,engH,vwH,show ats []= []from rfl]at h1 h2 ⊢
 rw[Tau _ 14 A_view_New _ _ (by decide) (by decide) rfl rfl rfl rfl rfl (by simp)]
 simp(maxSteps:=1000000) (disch:=omega) [A_view_New,h1,h2,maxBytes,Taa,Tad]
end Go.Proofs.YtjpibniecllafaaGreat.AM
end
section
namespace Go.Proofs.YtjpibniecllafaaGreat.AM
open Go Go.Proofs.YtjpibniecllafaaGreat.U
variable {cp:List PV->Option Ret}
theorem vwFol (E E0:Eng)(H:EOk E)(x x0:List PV)(h h' p:Int)(hh:E0.fl+E0.U.length-1=h)(hh':E.fl+E.U.length-1=h')(hfl:E.fl<=h)(hle:h<=h')(sel0:List (List PV))
 (hp:0<=p) (hsz: ((E.textAt h).size:Int)=p) (his:isD p (btw E h h')=true) (hln: (btw E h h').length<=60) :
 Run (EX cp) 1000045 [.hp [.mp 0 0 0,.mp 1 0 0] (vw2 E E0 x x0 (cutsL [(p,p)]) sel0)]=some (.shr (.p (pi 0)) (vw2 E E0 x x0 (cutsL ([(p,p)].map (mv2 p (btw E h h')))) sel0)):=by
 have hb:=runBetween (cp:=cp) E H h h' ⟨hfl,by omega⟩ ⟨by omega,by omega⟩ hln
 have hin:∀ r∈ [(p,p)],insB p r=true:=by
  intro r hr
  rw[List.mem_singleton]at hr
  subst hr
  simp[insB,ivB,loR,hiR,hp]
 have:=vwFollows (cp:=cp) E E0 x x0 sel0 [(p,p)] h' h hh'.symm hh.symm (E.textAt h).size (btw E h h') hb (by rw[hsz]; exact his) (by simp) (by simp) (by rw[hsz]; exact hin) (by simp[apB])
 rw[hsz]at this
 exact this
section
variable (E E':Eng)(H:EOk E)(H':EOk E')(x0:List PV)(hr:Rp (.pt x0) E.txt)(hs':E'.txt.size<=20000)(p p' h h':Int)(hh:E.fl+E.U.length-1=h)(hh':E'.fl+E'.U.length-1=h')(hfl:E'.fl<=h)(hle:h<=h')(hp:0<=p)
 (b g rk:Int) (hg:inR g) (c gs rs:List (List PV)) (t:ByteArray) (s1 s2 s3:Int)
include H H' hr hs' hh hh' hfl hle hp hg
theorem doType1 (ht:t.size<1000000)(k:Int)(hq:E.edit h g 0 [⟨p,p,t⟩]= (k,0,E'))(hd:DOk E' h h' p p') :
 ∃ x1,Rp (.pt x1) E'.txt/\Run (EX cp) 1000015 [.hp [.mp 0 0 0,.p (.st (actV 5 b g rk c gs rs t s1 s2 s3))] (vwH E (.pt x0) (cutsL [(p,p)]) [] [])]=some (.shr (.p (.tu [pi h',pi 0])) (vwN E E' x1 (cutsL [(p',p')]))):=by
 have _h:=hr
 have l1:loR (p,p)=p:=by unfold loR; exact Int.min_self _
 have l2:hiR (p,p)=p:=by unfold hiR; exact Int.max_self _
 have c2:=vwType (cp:=cp) E H x0 [(p,p)] (by simp) [] [] b g rk hg c gs rs t ht s1 s2 s3 (k,0,E') (by
  rw[hh]
  show E.edit h g 0 [⟨loR (p,p),hiR (p,p),t⟩]=_
  rw[l1,l2]; exact hq) rfl
 have c3:=vwFol (cp:=cp) E' E H' x0 x0 h h' p hh hh' hfl hle (cutsL [(p,p)]) hp hd.sz hd.is hd.len
 rw[List.map_cons,List.map_nil,hd.mv]at c3
 obtain⟨x1,hx,c4⟩:=vwTold (cp:=cp) E' H' hs' (.pt x0) (cutsL [(p',p')]) [] []
 have:=vwDo (cp:=cp) E E' H x0 x1 (cutsL [(p,p)]) (cutsL [(p',p')]) (by simp[cutsL]) (by intro z hz; simp[cutsL,cutV]at hz; subst hz; rfl) 5 b g rk c gs rs t s1 s2 s3 (Or.inl rfl) c2 c3 c4
 rw[hh']at this
 exact⟨x1,hx,this⟩
end
end Go.Proofs.YtjpibniecllafaaGreat.AM
end
section
namespace Go.Proofs.YtjpibniecllafaaGreat.AM
open Go Go.Proofs.YtjpibniecllafaaGreat.U
attribute [local simp] cellR thereV RV.sv innE inlE reach pos subH SV.mapr RV.mapr Ob.mapr SV.refs RV.id? RV.ref Ob.refs noRow shnE shrE okK closeB freshs at0 newS leftS finishS oneS manyS allP sameFz Ob.noPin startS entryS List.range_succ List.filterMap_cons List.filterMap_nil SV.rv fzvs fzv liveV liveR rcellss rcells fillQ fixN RV.isNil revO
variable {cp:List PV->Option Ret}
theorem Tsf {s:ByteArray}{l:List (Int×Int)}(h:selB s l=true):1<=l.length/\l.length<=8/\l.all (insB s.size)=true/\l.all (edgR s)=true/\apB l=true:=by
 unfold selB at h
 simp only[Bool.and_eq_true,decide_eq_true_eq]at h
 exact⟨h.1.1.1.1,h.1.1.1.2,h.1.1.2,h.1.2,h.2⟩
theorem runRegMake (s:ByteArray)(hs:s.size<1099511627776)(l:List (Int×Int))(h:selB s l=true):Run (EX cp) 80 [.sl 2 (cutsL l),.sc (.string s)]=some (.val (.tu [.sl 2 (cutsL l),pi 0])):=by
 obtain⟨h1,h2,h3,h4,h5⟩:=Tsf h
 have i1:Run (EX cp) 143 [.sc (.string s)]=some (.val (.fn 191 [.pt [.sc (.string s)]])):=by
  rw[Tah _ A_region_inside _ rfl rfl rfl]; simp[A_region_inside]
 have i2:Run (EX cp) 144 [.sc (.string s)]=some (.val (.fn 192 [.pt [.sc (.string s)]])):=by
  rw[Tah _ A_region_edges _ rfl rfl rfl]; simp[A_region_edges]
 have e1:=runEvery (cp:=cp) l (by omega) 191 [.pt [.sc (.string s)]] (insB s.size) fun r _=>runInside1 s r
 have e2:=runEvery (cp:=cp) l (by omega) 192 [.pt [.sc (.string s)]] (edgR s) fun r _=>runEdges1 s hs r
 rw[h3]at e1
 rw[h4]at e2
 have d3:=runCountR (cp:=cp) l
 rw[if_neg (by omega),if_neg (by omega)]at d3
 have d5:=runApart (cp:=cp) l h1 h2 h5
 rw[Tah _ A_region_Make _ rfl rfl rfl]
 have hbl:=Taq l
 have htk: (cutsL l).take l.length=cutsL l:=List.take_of_length_le (by omega)
 generalize cutsL l=R at *
 simp(disch:=omega)[A_region_Make,i1,i2,e1,e2,d3,d5,hbl,htk,Taa,Tad,Taj]
section
variable (E:Eng)(H:EOk E)(x:List PV)(S:List (List PV))(l:List (Int×Int))(b g rk:Int)(c gs:List (List PV))(p:ByteArray)(s1 s2 s3:Int)
theorem vwSelect (s:ByteArray)(hr:Rp (.pt x) s)(hs:s.size<1099511627776)(hsel:selB s l=true) :
 Run (EX cp) 1000046 [.hp [.mp 0 0 0,.p (.st (actV 4 b g rk c gs (cutsL l) p s1 s2 s3))] (vwH E (.pt x) S [] [])]=some (.shr (.p (pi 0)) (vwH E (.pt x) (cutsL l) [] [])):=by
 have c1:=vwText (cp:=cp) E (.pt x) S [] [] s hr
 have c2:=runRegMake (cp:=cp) s hs l hsel
 unfold vwH at c1 ⊢
 generalize cutsL l=O at *
 rw[Tau _ 46 A_view_View_marks _ _ (by decide) (by decide) rfl rfl rfl rfl rfl (by simp)]
 simp(maxSteps:=2000000) (disch:=omega) [A_view_View_marks,actV,c1,c2,Taa,Tad]
include H in
theorem vwDoM (x1:List PV)(S':List (List PV))(hS:S.length<=100)(hS2:∀ c∈S,c.length=2)(rs:List (List PV))(br':List (List PV))(k:Int)(hk:k=4)
 (h1:Run (EX cp) 1000046 [.hp [.mp 0 0 0,.p (.st (actV k b g rk c gs rs p s1 s2 s3))] (vwH E (.pt x) S [] [])]=some (.shr (.p (pi 0)) (vwH E (.pt x) S' [] [])))
 (h3:Run (EX cp) 1000041 [.hp [.mp 0 0 0] (vwH E (.pt x) S' [] [])]=some (.shr (.mp 0 0 0) (vwH E (.pt x1) S' [] []))) :
 Run (EX cp) 1000015 [.hp [.mp 0 0 0,.p (.st (actV k b g rk c gs rs p s1 s2 s3))] (vwH E (.pt x) S [] [])]=some (.shr (.p (.tu [pi (E.fl+E.U.length-1),pi 0])) (vwN E E x1 S')):=by
 have c1:=vwCopy (cp:=cp) E (.pt x) S [] [] x rfl H hS hS2 (by simp) (by simp)
 have c2:=vwHead (cp:=cp) E (.pt x1) S' [] []
 have c3:=Tlz (cp:=cp)
 unfold vwH at c1 c2 h1 h3 ⊢
 unfold vwN
 unfold actV at h1 ⊢
 rw[Tau _ 15 A_view_View_Do _ _ (by decide) (by decide) rfl rfl rfl rfl rfl (by simp)]
 subst hk
 simp(maxSteps:=2000000) (disch:=omega) [A_view_View_Do,c1,c2,c3,h1,h3,Taa,Tad]
include H in
theorem doSelect (s:ByteArray)(hs:s.size<=20000)(he:E.txt=s)(hr:Rp (.pt x) s)(hsel:selB s l=true)(hS:S.length<=100)(hS2:∀ c∈S,c.length=2) :
 ∃ x1,Rp (.pt x1) s/\Run (EX cp) 1000015 [.hp [.mp 0 0 0,.p (.st (actV 4 b g rk c gs (cutsL l) p s1 s2 s3))] (vwH E (.pt x) S [] [])]=some (.shr (.p (.tu [pi (E.fl+E.U.length-1),pi 0])) (vwN E E x1 (cutsL l))):=by
 subst he
 obtain⟨x1,hx,c4⟩:=vwTold (cp:=cp) E H hs (.pt x) (cutsL l) [] []
 exact⟨x1,hx,vwDoM E H x S b g rk c gs p s1 s2 s3 x1 (cutsL l) hS hS2 (cutsL l) [] 4 rfl (vwSelect E x S l b g rk c gs p s1 s2 s3 E.txt hr (by omega) hsel) c4⟩
end
theorem doTypeN (E E':Eng)(H:EOk E)(H':EOk E')(x0:List PV)(hs':E'.txt.size<=20000)(l:List (Int×Int))(h1:1<=l.length)(hl:l.length<=8)(h h':Int)(hh:E.fl+E.U.length-1=h)(hh':E'.fl+E'.U.length-1=h')(hfl:E'.fl<=h)(hle:h<=h')
 (b g rk:Int) (hg:inR g) (c gs rs:List (List PV)) (t:ByteArray) (s1 s2 s3:Int) (ht:t.size<1000000) (k:Int) (hq:E.edit h g 0 (typeF t l)= (k,0,E'))
 (n:Int) (hsz: ((E'.textAt h).size:Int)=n) (his:isD n (btw E' h h')=true) (hln: (btw E' h h').length<=60) (hin:∀ r∈l,insB n r=true) (ho:apB (l.map (mv2 n (btw E' h h')))=true) :
 ∃ x1,Rp (.pt x1) E'.txt/\Run (EX cp) 1000015 [.hp [.mp 0 0 0,.p (.st (actV 5 b g rk c gs rs t s1 s2 s3))] (vwH E (.pt x0) (cutsL l) [] [])]=some (.shr (.p (.tu [pi h',pi 0])) (vwN E E' x1 (cutsL (l.map (mv2 n (btw E' h h')))))):=by
 have c2:=vwType (cp:=cp) E H x0 l (by omega) [] [] b g rk hg c gs rs t ht s1 s2 s3 (k,0,E') (by rw[hh]; exact hq) rfl
 have hb:=runBetween (cp:=cp) E' H' h h' ⟨hfl,by omega⟩ ⟨by omega,by omega⟩ hln
 have c3:=vwFollows (cp:=cp) E' E x0 x0 (cutsL l) l h' h hh'.symm hh.symm (E'.textAt h).size (btw E' h h') hb (by rw[hsz]; exact his) h1 hl (by rw[hsz]; exact hin) (by rw[hsz]; exact ho)
 rw[hsz]at c3
 obtain⟨x1,hx,c4⟩:=vwTold (cp:=cp) E' H' hs' (.pt x0) (cutsL (l.map (mv2 n (btw E' h h')))) [] []
 have hcl:=Taq l
 have:=vwDo (cp:=cp) E E' H x0 x1 (cutsL l) _ (by omega) (fun z hz=>by obtain⟨r,_,rfl⟩:=List.mem_map.1 hz; rfl) 5 b g rk c gs rs t s1 s2 s3 (Or.inl rfl) c2 c3 c4
 rw[hh']at this
 exact⟨x1,hx,this⟩
end Go.Proofs.YtjpibniecllafaaGreat.AM
end
