/- Made by pack.py: more of it. No condition but what each says. -/
import Derived.Test.YtjpibniecllafaaGreatC13
import Derived.Test.YtjpibniecllafaaGreatC18
import Derived.Test.YtjpibniecllafaaGreatC17
import Derived.Test.YtjpibniecllafaaGreatC12
import Derived.Test.YtjpibniecllafaaGreatC14
set_option linter.unusedSimpArgs false
set_option linter.unusedVariables false
set_option maxHeartbeats 16000000
section
namespace Go.Proofs.YtjpibniecllafaaGreat.AM
open Go Go.Proofs.YtjpibniecllafaaGreat.U
attribute [local simp] cellR thereV RV.sv innE inlE reach pos subH SV.mapr RV.mapr Ob.mapr SV.refs RV.id? RV.ref Ob.refs noRow shnE shrE okK closeB freshs at0 newS leftS finishS oneS manyS allP sameFz Ob.noPin startS entryS List.range_succ List.filterMap_cons List.filterMap_nil SV.rv fzvs fzv liveV liveR rcellss rcells fillQ fixN RV.isNil revO
variable {cp:List PV->Option Ret}
def vwH (E:Eng)(r:PV)(sel sp br:List (List PV)):List (Nat×Ob):= [(0,.gr 90 5 [[.mp 1 0 0,.p r,.p (.sl 2 sel),.p (.sl 3 sp),.p (.sl 1 br)]]),(1,.gr 100 2 [[.p (.sl 5 (ats E.l)),.mo 2]]),(2,.mpo E.U E.fl E.G E.F)]
theorem copiedR (l:List (List PV))(hl:l.length<=100)(h2:∀ c∈l,c.length=2):Run (EX cp) 49 [.sl 2 l]=some (.own 41 2 l):=by
 rw[Tah _ A_view_copied_api_Region _ rfl rfl rfl]
 simp(disch:=omega)[A_view_copied_api_Region,maxBytes,Tab,Taj]
theorem copiedI (l:List (List PV))(hl:l.length<=100):Run (EX cp) 63 [.sl 1 l]=some (.own 3 1 l):=by
 rw[Tah _ A_view_copied_int _ rfl rfl rfl]
 simp(disch:=omega)[A_view_copied_int,maxBytes,Tab,Taj]
theorem copiedS (l:List (List PV))(hl:l.length<=100):Run (EX cp) 120 [.sl 3 l]=some (.own 33 3 l):=by
 rw[Tah _ A_view_copied_api_Span _ rfl rfl rfl]
 simp(disch:=omega)[A_view_copied_api_Span,maxBytes,Tab,Taj]
section
variable (E:Eng)(r:PV)(sel sp br:List (List PV))
theorem vwHead:Run (EX cp) 2000017 [.hp [.mp 0 0 0] (vwH E r sel sp br)]=some (.shn (.p (pi (E.fl+E.U.length-1))) []):=by
 have h1:=engHead (cp:=cp) (ats E.l) E.U E.fl E.G E.F
 simp only[engH]at h1
 rw[Tbt _ 17 A_view_View_Head _ _ (by decide) rfl rfl rfl rfl rfl (by simp[vwH]) (by decide +kernel)]
 simp(disch:=omega)[A_view_View_Head,vwH,h1]
theorem vwText (s:ByteArray)(hr:Rp r s):Run (EX cp) 2000018 [.hp [.mp 0 0 0] (vwH E r sel sp br)]=some (.shn (.p (.sc (.string s))) []):=by
 have h1:=ropeString (cp:=cp) hr
 rw[Tbt _ 18 A_view_View_Text _ _ (by decide) rfl rfl rfl rfl rfl (by simp[vwH]) (by decide +kernel)]
 simp(disch:=omega)[A_view_View_Text,vwH,h1]
theorem vwSel (hl:sel.length<=100)(h2:∀ c∈sel,c.length=2):Run (EX cp) 2000019 [.hp [.mp 0 0 0] (vwH E r sel sp br)]=some (.shn (.ms 3 0 sel.length) [(3,.row 41 2 false sel)]):=by
 have h1:=copiedR (cp:=cp) sel hl h2
 rw[Tbt _ 19 A_view_View_Selection _ _ (by decide) rfl rfl rfl rfl rfl (by simp[vwH]) (by decide +kernel)]
 simp(disch:=omega)[A_view_View_Selection,vwH,h1]
theorem vwSp (hl:sp.length<=100):Run (EX cp) 2000073 [.hp [.mp 0 0 0] (vwH E r sel sp br)]=some (.shn (.ms 3 0 sp.length) [(3,.row 33 3 false sp)]):=by
 have h1:=copiedS (cp:=cp) sp hl
 rw[Tbt _ 73 A_view_View_Spans _ _ (by decide) rfl rfl rfl rfl rfl (by simp[vwH]) (by decide +kernel)]
 simp(disch:=omega)[A_view_View_Spans,vwH,h1]
theorem vwBr (hl:br.length<=100):Run (EX cp) 2000031 [.hp [.mp 0 0 0] (vwH E r sel sp br)]=some (.shn (.ms 3 0 br.length) [(3,.row 3 1 false br)]):=by
 have h1:=copiedI (cp:=cp) br hl
 rw[Tbt _ 31 A_view_View_Breaks _ _ (by decide) rfl rfl rfl rfl rfl (by simp[vwH]) (by decide +kernel)]
 simp(disch:=omega)[A_view_View_Breaks,vwH,h1]
theorem vwCopy (x:List PV)(hr:r= .pt x)(H:EOk E)(hl:sel.length<=100)(h2:∀ c∈sel,c.length=2)(hl3:sp.length<=100)(hl1:br.length<=100):Run (EX cp) 2000042 [.hp [.mp 0 0 0] (vwH E r sel sp br)]=some (.shn (.mp 3 0 0) [(3,.gr 90 5 [[.mp 4 0 0,.p r,.p (.sl 2 sel),.p (.sl 3 sp),.p (.sl 1 br)]]),(4,.gr 100 2 [[.p (.sl 5 (ats E.l)),.mo 5]]),(5,.mpo E.U E.fl E.G E.F)]):=by
 subst hr
 have c1:=vwSel (cp:=cp) E (.pt x) sel sp br hl h2
 have c2:=vwSp (cp:=cp) E (.pt x) sel sp br hl3
 have c3:=vwBr (cp:=cp) E (.pt x) sel sp br hl1
 have c4:=engCopy (cp:=cp) E.l E.U E.fl E.G E.F (by have:=H.len; omega) (fun a ha=>by have:=H.cl a ha; omega)
 have t1:sel.take sel.length=sel:=List.take_length
 have t2:sp.take sp.length=sp:=List.take_length
 have t3:br.take br.length=br:=List.take_length
 simp only[engH]at c4
 unfold vwH at c1 c2 c3
 rw[Tbt _ 42 A_view_View_Copy _ _ (by decide) rfl rfl rfl rfl rfl (by simp[vwH]) (by decide +kernel)]
 simp(maxSteps:=1000000) (disch:=omega) [A_view_View_Copy,vwH,c1,c2,c3,c4,t1,t2,t3]
end
end Go.Proofs.YtjpibniecllafaaGreat.AM
end
section
namespace Go.Proofs.YtjpibniecllafaaGreat.AM
open Go Go.Proofs.YtjpibniecllafaaGreat.U
attribute [local simp] cellR thereV RV.sv innE inlE reach pos subH SV.mapr RV.mapr Ob.mapr SV.refs RV.id? RV.ref Ob.refs noRow shnE shrE okK closeB freshs at0 newS leftS finishS oneS manyS allP sameFz Ob.noPin startS entryS List.range_succ List.filterMap_cons List.filterMap_nil SV.rv fzvs fzv liveV liveR rcellss rcells fillQ fixN RV.isNil revO
variable {cp:List PV->Option Ret}
def engHR (fz:Bool)(l:List (List PV))(U:List (List Int))(fl:Int)(G F:List Int)(c:List (List PV)):List (Nat×Ob):= [(0,.gr 100 2 [[.p (.sl 5 l),.mo 2]]),(1,.row 49 3 fz c),(2,.mpo U fl G F)]
def engH2R (l:List (List PV))(U:List (List Int))(fl:Int)(G F:List Int)(U':List (List Int))(fl':Int)(G' F':List Int)(c:List (List PV)):List (Nat×Ob):= [(0,.gr 100 2 [[.p (.sl 5 l),.mo 3]]),(1,.row 49 3 true c),(2,.mpo U fl G F),(3,.mpo U' fl' G' F')]
abbrev Eng.hpR (E:Eng) (fz:Bool) (c:List Ch):List (Nat×Ob):=engHR fz (ats E.l) E.U E.fl E.G E.F (chs c)
abbrev Eng.hp2R (E E':Eng) (c:List Ch):List (Nat×Ob):=engH2R (ats E'.l) E.U E.fl E.G E.F E'.U E'.fl E'.G E'.F (chs c)
abbrev cEditR (E:Eng) (fz:Bool) (b g rk:Int) (c:List Ch):List PV:= [.hp [.mp 0 0 0,.p (pi b),.p (pi g),.p (pi rk),.ms 1 0 c.length] (E.hpR fz c)]
theorem engEditR (fz:Bool)(l:List At)(U:List (List Int))(fl:Int)(G F:List Int)(base g rk:Int)(c:List Ch)(l':List At)(hl:l.length<1000000)(hlc:∀ a∈l,a.cuts.length<1000000)(hf:Fit2 l)
 (hb:fl<=base/\base<=fl+U.length-1) (hu: (undU U fl base).length<=9223372036854775807) (hcl:c.length<=9223372036854775807) (hcs:∀ x∈c,x.s.size<1000000) (hk:chk (txtS base (undU U fl base) l) c=0)
 (hg:inR g) (hg2:¬ (g∈F∨g<0∨60<=g)) (hn:¬ 200<=fl+ (U.length:Int)-1) (hr:0<=rk/\rk<=1000000)
 (hl':uponF l base (undU U fl base) c (fl+U.length) g rk=l') (h40:l'.length<=4000) (hf':Fit l') (hu': (undU (U++ [lastS U]) fl (fl+ (U++ [lastS U]).length-1)).length<=9223372036854775807)
 (hft: (headT l' (U++ [lastS U]) fl).size<=20000) :
 Run (EX cp) 1000021 [.hp [.mp 0 0 0,.p (pi base),.p (pi g),.p (pi rk),.ms 1 0 c.length] (engHR fz (ats l) U fl G F (chs c))]=some (.shr (.p (.tu [pi (fl+U.length),pi 0])) (engH2R (ats l') U fl G F (U++ [lastS U]) fl (insS g G) F (chs c))):=by
 have h1:=engText (cp:=cp) l U fl G F base hf.fit hu hb
 have hcs2:∀ x∈c,x.s.size<1099511627776:=fun x hx=>by have:=hcs x hx; omega
 have h2:=editCheck (cp:=cp) (txtS base (undU U fl base) l) c (hf.txt base (undU U fl base)) hcl hcs2
 rw[hk]at h2
 have h3:=engCopy (cp:=cp) l U fl G F (by omega) (fun a ha=>by have:=hlc a ha; omega)
 have h4:=Tc8 (cp:=cp) U fl G F g hg
 have e4:revAdd U fl G F g= .shr (.p (.tu [pi (fl+U.length),pi 0])) [(0,revO (U++ [lastS U]) fl (insS g G) F)]:=by
  unfold revAdd
  rw[if_neg hg2,if_neg hn]
 rw[e4]at h4
 have h5:=engUndoneAt (cp:=cp) (ats l) U fl G F base
 have h6:=editUpon (cp:=cp) l base (undU U fl base) c (fl+U.length) g rk hf hl hlc hu hcl hcs
 rw[hl']at h6
 have h7:=engFits (cp:=cp) l' (U++ [lastS U]) fl (insS g G) F hf' (by simp) hu'
 rw[decide_eq_true (by omega: ((headT l' (U++ [lastS U]) fl).size:Int)<=20000)]at h7
 have r1:decide (rk<0)=false:=decide_eq_false (by omega)
 have r2:decide (1000000<rk)=false:=decide_eq_false (by omega)
 have r3:decide ((4000:Int)< (l'.length:Int))=false:=decide_eq_false (by omega)
 have hlen: (ats l').length=l'.length:=Tkl l'
 simp only[engH,revO]at h1 h2 h3 h4 h5 h6 h7
 rw[Tau _ 21 A_engine_Engine_Edit _ _ (by decide) (by decide) rfl rfl rfl rfl rfl (by simp[engHR])]
 simp(disch:=omega)[A_engine_Engine_Edit,engHR,engH2R,Tcz,h1,h2,h3,h4,h5,h6,h7,hlen,Taa,Tad]
section
variable (E:Eng)(H:EOk E)(fz:Bool)(b g rk:Int)(c:List Ch)
include H
theorem Tsb (hb:¬ (E.fl<=b/\b<=E.fl+E.U.length-1)):Run (EX cp) 1000021 (cEditR E fz b g rk c)=some (.shr (.p (.tu [pi 0,pi 190])) (E.hpR fz c)):=by
 have _h:=H
 have h1:=Tq2 (cp:=cp) (ats E.l) E.U E.fl E.G E.F b hb
 simp only[engH]at h1
 rw[Tau _ 21 A_engine_Engine_Edit _ _ (by decide) (by decide) rfl rfl rfl rfl rfl (by simp[Eng.hpR,engHR])]
 simp(disch:=omega)[A_engine_Engine_Edit,Eng.hpR,engHR,Tcz,h1]
theorem Tv0 (hw:ChW c)(hb:E.fl<=b/\b<=E.fl+E.U.length-1)(hk:chk (E.textAt b) c≠0):Run (EX cp) 1000021 (cEditR E fz b g rk c)=some (.shr (.p (.tu [pi 0,pi (chk (E.textAt b) c)])) (E.hpR true c)):=by
 have h1:=engText (cp:=cp) E.l E.U E.fl E.G E.F b H.fit2.fit (H.ul b) hb
 have h2:=editCheck (cp:=cp) (E.textAt b) c (H.fit2.txt b (E.ut b)) hw.1 (fun x hx=>by have:=hw.2 x hx; omega)
 have h1':txtS b (undU E.U E.fl b) E.l=E.textAt b:=rfl
 rw[h1']at h1
 generalize E.textAt b=t at *
 generalize chk t c=n at *
 simp only[engH]at h1
 rw[Tau _ 21 A_engine_Engine_Edit _ _ (by decide) (by decide) rfl rfl rfl rfl rfl (by simp[Eng.hpR,engHR])]
 simp(disch:=omega)[A_engine_Engine_Edit,Eng.hpR,engHR,Tcz,h1,h2,hk,Taa,Tad]
variable (hw:ChW c)(hb:E.fl<=b/\b<=E.fl+E.U.length-1)(hk:chk (E.textAt b) c=0)(hg:inR g)
include hw hb hk hg
theorem Tmr (n:Int)(hn:n≠0)(ha:revAdd E.U E.fl E.G E.F g= .shr (.p (.tu [pi 0,pi n])) [(0,revO E.U E.fl E.G E.F)]):Run (EX cp) 1000021 (cEditR E fz b g rk c)=some (.shr (.p (.tu [pi 0,pi n])) (E.hpR true c)):=by
 have h1:=engText (cp:=cp) E.l E.U E.fl E.G E.F b H.fit2.fit (H.ul b) hb
 have h2:=editCheck (cp:=cp) (E.textAt b) c (H.fit2.txt b (E.ut b)) hw.1 (fun x hx=>by have:=hw.2 x hx; omega)
 have h1':txtS b (undU E.U E.fl b) E.l=E.textAt b:=rfl
 rw[h1']at h1
 rw[hk]at h2
 have h3:=engCopy (cp:=cp) E.l E.U E.fl E.G E.F (by have:=H.len; omega) (fun a ha=>by have:=H.cl a ha; omega)
 have h4:=Tc8 (cp:=cp) E.U E.fl E.G E.F g hg
 rw[ha]at h4
 simp only[engH,revO]at h1 h3 h4
 rw[Tau _ 21 A_engine_Engine_Edit _ _ (by decide) (by decide) rfl rfl rfl rfl rfl (by simp[Eng.hpR,engHR])]
 simp(disch:=omega)[A_engine_Engine_Edit,Eng.hpR,engHR,Tcz,h1,h2,h3,h4,hn,Taa,Tad]
variable (ha:revAdd E.U E.fl E.G E.F g= .shr (.p (.tu [pi (E.fl+E.U.length),pi 0])) [(0,revO (E.U++ [lastS E.U]) E.fl (insS g E.G) E.F)])
include ha
theorem Tsc (hr:rk<0∨1000000<rk):Run (EX cp) 1000021 (cEditR E fz b g rk c)=some (.shr (.p (.tu [pi 0,pi 10])) (E.hpR true c)):=by
 have h1:=engText (cp:=cp) E.l E.U E.fl E.G E.F b H.fit2.fit (H.ul b) hb
 have h2:=editCheck (cp:=cp) (E.textAt b) c (H.fit2.txt b (E.ut b)) hw.1 (fun x hx=>by have:=hw.2 x hx; omega)
 have h1':txtS b (undU E.U E.fl b) E.l=E.textAt b:=rfl
 rw[h1']at h1
 rw[hk]at h2
 have h3:=engCopy (cp:=cp) E.l E.U E.fl E.G E.F (by have:=H.len; omega) (fun a ha=>by have:=H.cl a ha; omega)
 have h4:=Tc8 (cp:=cp) E.U E.fl E.G E.F g hg
 rw[ha]at h4
 simp only[engH,revO]at h1 h3 h4
 rw[Tau _ 21 A_engine_Engine_Edit _ _ (by decide) (by decide) rfl rfl rfl rfl rfl (by simp[Eng.hpR,engHR])]
 by_cases r1:rk<0
 · simp(disch:=omega)[A_engine_Engine_Edit,Eng.hpR,engHR,Tcz,h1,h2,h3,h4,Taa,Tad]
 · simp(disch:=omega)[A_engine_Engine_Edit,Eng.hpR,engHR,Tcz,h1,h2,h3,h4,Taa,Tad]
end
section
variable (E:Eng)(H:EOk E)(fz:Bool)(b g rk:Int)(c:List Ch)
include H
variable (hw:ChW c)(hb:E.fl<=b/\b<=E.fl+E.U.length-1)(hk:chk (E.textAt b) c=0)(hg:inR g)
include hw hb hk hg
variable (ha:revAdd E.U E.fl E.G E.F g= .shr (.p (.tu [pi (E.fl+E.U.length),pi 0])) [(0,revO (E.U++ [lastS E.U]) E.fl (insS g E.G) E.F)])(hr:0<=rk/\rk<=1000000)
include ha hr
theorem Tsd (hn:4000< (E.upon b g rk c).length):Run (EX cp) 1000021 (cEditR E fz b g rk c)=some (.shr (.p (.tu [pi 0,pi 70])) (E.hpR true c)):=by
 have h1:=engText (cp:=cp) E.l E.U E.fl E.G E.F b H.fit2.fit (H.ul b) hb
 have h2:=editCheck (cp:=cp) (E.textAt b) c (H.fit2.txt b (E.ut b)) hw.1 (fun x hx=>by have:=hw.2 x hx; omega)
 have h1':txtS b (undU E.U E.fl b) E.l=E.textAt b:=rfl
 rw[h1']at h1
 rw[hk]at h2
 have h3:=engCopy (cp:=cp) E.l E.U E.fl E.G E.F (by have:=H.len; omega) (fun a ha=>by have:=H.cl a ha; omega)
 have h4:=Tc8 (cp:=cp) E.U E.fl E.G E.F g hg
 rw[ha]at h4
 have h5:=engUndoneAt (cp:=cp) (ats E.l) E.U E.fl E.G E.F b
 have h6:=editUpon (cp:=cp) E.l b (undU E.U E.fl b) c (E.fl+E.U.length) g rk H.fit2 (by have:=H.len; omega) (fun a ha=>by have:=H.cl a ha; omega) (H.ul b) hw.1 hw.2
 have e6:uponF E.l b (undU E.U E.fl b) c (E.fl+E.U.length) g rk=E.upon b g rk c:=rfl
 rw[e6]at h6
 have r1:decide (rk<0)=false:=decide_eq_false (by omega)
 have r2:decide (1000000<rk)=false:=decide_eq_false (by omega)
 have hlen: (ats (E.upon b g rk c)).length= (E.upon b g rk c).length:=Tkl _
 generalize E.upon b g rk c=l' at *
 have r3:decide ((4000:Int)< (l'.length:Int))=true:=decide_eq_true (by omega)
 simp only[engH,revO]at h1 h3 h4 h5
 rw[Tau _ 21 A_engine_Engine_Edit _ _ (by decide) (by decide) rfl rfl rfl rfl rfl (by simp[Eng.hpR,engHR])]
 simp(disch:=omega)[A_engine_Engine_Edit,Eng.hpR,engHR,Tcz,h1,h2,h3,h4,h5,h6,hlen,Taa,Tad]
theorem Tse (hn: (E.upon b g rk c).length<=4000)(hs:20000< (headT (E.upon b g rk c) (E.U++ [lastS E.U]) E.fl).size)(hf:Fit (E.upon b g rk c))(hu: (undU (E.U++ [lastS E.U]) E.fl (E.fl+ (E.U++ [lastS E.U]).length-1)).length<=9223372036854775807) :
 Run (EX cp) 1000021 (cEditR E fz b g rk c)=some (.shr (.p (.tu [pi 0,pi 13])) (E.hpR true c)):=by
 have h1:=engText (cp:=cp) E.l E.U E.fl E.G E.F b H.fit2.fit (H.ul b) hb
 have h2:=editCheck (cp:=cp) (E.textAt b) c (H.fit2.txt b (E.ut b)) hw.1 (fun x hx=>by have:=hw.2 x hx; omega)
 have h1':txtS b (undU E.U E.fl b) E.l=E.textAt b:=rfl
 rw[h1']at h1
 rw[hk]at h2
 have h3:=engCopy (cp:=cp) E.l E.U E.fl E.G E.F (by have:=H.len; omega) (fun a ha=>by have:=H.cl a ha; omega)
 have h4:=Tc8 (cp:=cp) E.U E.fl E.G E.F g hg
 rw[ha]at h4
 have h5:=engUndoneAt (cp:=cp) (ats E.l) E.U E.fl E.G E.F b
 have h6:=editUpon (cp:=cp) E.l b (undU E.U E.fl b) c (E.fl+E.U.length) g rk H.fit2 (by have:=H.len; omega) (fun a ha=>by have:=H.cl a ha; omega) (H.ul b) hw.1 hw.2
 have e6:uponF E.l b (undU E.U E.fl b) c (E.fl+E.U.length) g rk=E.upon b g rk c:=rfl
 rw[e6]at h6
 have h7:=engFits (cp:=cp) (E.upon b g rk c) (E.U++ [lastS E.U]) E.fl (insS g E.G) E.F hf (by simp) hu
 rw[decide_eq_false (by omega:¬ ((headT (E.upon b g rk c) (E.U++ [lastS E.U]) E.fl).size:Int)<=20000)]at h7
 have r1:decide (rk<0)=false:=decide_eq_false (by omega)
 have r2:decide (1000000<rk)=false:=decide_eq_false (by omega)
 have hlen: (ats (E.upon b g rk c)).length= (E.upon b g rk c).length:=Tkl _
 generalize E.upon b g rk c=l' at *
 have r3:decide ((4000:Int)< (l'.length:Int))=false:=decide_eq_false (by omega)
 simp only[engH,revO]at h1 h3 h4 h5 h7
 rw[Tau _ 21 A_engine_Engine_Edit _ _ (by decide) (by decide) rfl rfl rfl rfl rfl (by simp[Eng.hpR,engHR])]
 simp(disch:=omega)[A_engine_Engine_Edit,Eng.hpR,engHR,Tcz,h1,h2,h3,h4,h5,h6,h7,hlen,Taa,Tad]
end
section
variable (E:Eng)(H:EOk E)(fz:Bool)(b g rk:Int)(c:List Ch)
include H
theorem Tv1 (hw:ChW c)(hg:inR g):Run (EX cp) 1000021 (cEditR E fz b g rk c)=some (.shr (.p (.tu [pi (E.edit b g rk c).1,pi (E.edit b g rk c).2.1])) (if(E.edit b g rk c).2.1=0 then E.hp2R (E.edit b g rk c).2.2 c else E.hpR (fz||decide (E.fl<=b/\b<=E.fl+E.U.length-1)) c)):=by
 unfold Eng.edit
 by_cases c1:E.fl<=b/\b<=E.fl+E.U.length-1
 case neg =>
  rw[if_pos c1,decide_eq_false c1,Bool.or_false]
  exact Tsb E H fz b g rk c c1
 rw[if_neg (fun h=>h c1),decide_eq_true c1,Bool.or_true]
 by_cases c2:chk (E.textAt b) c=0
 case neg =>
  rw[if_pos c2]
  rw[Tv0 E H fz b g rk c hw c1 c2]
  show _=some (Ret.shr _ (if chk (E.textAt b) c=0 then _ else E.hpR true c))
  rw[if_neg c2]
 rw[if_neg (fun h=>h c2)]
 have e0:revAdd E.U E.fl E.G E.F g=if g∈E.F∨g<0∨60<=g then .shr (.p (.tu [pi 0,pi 210])) [(0,revO E.U E.fl E.G E.F)]
  else if 200<=E.fl+E.U.length-1 then .shr (.p (.tu [pi 0,pi 70])) [(0,revO E.U E.fl E.G E.F)]
  else .shr (.p (.tu [pi (E.fl+E.U.length),pi 0])) [(0,revO (E.U++ [lastS E.U]) E.fl (insS g E.G) E.F)]:=rfl
 by_cases c3:g∈E.F∨g<0∨60<=g
 · rw[if_pos c3]
   rw[if_pos c3]at e0
   exact Tmr E H fz b g rk c hw c1 c2 hg 210 (by omega) e0
 rw[if_neg c3]
 rw[if_neg c3]at e0
 by_cases c4:200<=E.fl+ (E.U.length:Int)-1
 · rw[if_pos c4]
   rw[if_pos c4]at e0
   exact Tmr E H fz b g rk c hw c1 c2 hg 70 (by omega) e0
 rw[if_neg c4]
 rw[if_neg c4]at e0
 by_cases c5:rk<0∨1000000<rk
 · rw[if_pos c5]
   exact Tsc E H fz b g rk c hw c1 c2 hg e0 c5
 rw[if_neg c5]
 by_cases c6:4000< (E.upon b g rk c).length
 · rw[if_pos c6]
   exact Tsd E H fz b g rk c hw c1 c2 hg e0 (by omega) c6
 rw[if_neg c6]
 have hf:=EOk.fitN E H b g rk c (by omega)
 have hu: (undU (E.U++ [lastS E.U]) E.fl (E.fl+ (E.U++ [lastS E.U]).length-1)).length<=9223372036854775807:=by
  rw[Tme _ _ _ H.fl0]
  have:=H.us _ (Tic E.U H.u1); have:=H.hd; omega
 by_cases c7:20000< (headT (E.upon b g rk c) (E.U++ [lastS E.U]) E.fl).size
 · rw[if_pos c7]
   exact Tse E H fz b g rk c hw c1 c2 hg e0 (by omega) (by omega) c7 hf.fit hu
 rw[if_neg c7]
 exact engEditR (cp:=cp) fz E.l E.U E.fl E.G E.F b g rk c (E.upon b g rk c) (by have:=H.len; omega) (fun a ha=>by have:=H.cl a ha; omega) H.fit2 c1 (H.ul b) hw.1 hw.2 c2 hg c3 c4 (by omega) rfl (by omega) hf.fit hu (by omega)
end
end Go.Proofs.YtjpibniecllafaaGreat.AM
end
section
namespace Go.Proofs.YtjpibniecllafaaGreat.AM
open Go Go.Proofs.YtjpibniecllafaaGreat.U
attribute [local simp] cellR thereV RV.sv innE inlE reach pos subH SV.mapr RV.mapr Ob.mapr SV.refs RV.id? RV.ref Ob.refs noRow shnE shrE okK closeB freshs at0 newS leftS finishS oneS manyS allP sameFz Ob.noPin startS entryS List.range_succ List.filterMap_cons List.filterMap_nil SV.rv fzvs fzv liveV liveR rcellss rcells fillQ fixN RV.isNil revO
variable {cp:List PV->Option Ret}
def typeF (p:ByteArray)(l:List (Int×Int)):List Ch:=l.map fun r=> ⟨loR r,hiR r,p⟩
theorem Tv2 (p:ByteArray)(R T:List (List PV))(n i:Nat)(a c x y:Int)(res:Option (Out×St))(hR:R.length=n)(hn:n<=100)(hi:i<n)(hT:T.length=i)(h1:R[i]?=some [pi a,pi c])
 (m1:Run (EX cp) 121 [.st [pi a,pi c]]=some (.val (.st [pi x,pi y])))
 (ih:Code (EX cp) L_carets_Type_0 ⟨[(1,.p (.sc (.string p))),(5,.ms 5 0 (i+1)),(9,.p (.sl 2 R)),(10,.p (pi n)),(11,.p (pi ((i:Int)+1)))],[(5,.row 49 3 false (T++ [[pi x,pi y,.sc (.string p)]]))]⟩=res) :
 Code (EX cp) L_carets_Type_0 ⟨[(1,.p (.sc (.string p))),(5,.ms 5 0 i),(9,.p (.sl 2 R)),(10,.p (pi n)),(11,.p (pi i))],[(5,.row 49 3 false T)]⟩=res:=by
 rw[← ih]
 conv=>lhs; rw[L_carets_Type_0,Taf]
 simp(maxSteps:=1000000) (disch:=omega) [hR,hi,hT,h1,m1,maxBytes,Taa,Tad,Tab,Taj,-getElem?_pos]
 rw[L_carets_Type_0]
theorem Tms (p:ByteArray)(l:List (Int×Int))(hl:l.length<=100):∀(m i:Nat),m+i=l.length ->
 Code (EX cp) L_carets_Type_0 ⟨[(1,.p (.sc (.string p))),(5,.ms 5 0 i),(9,.p (.sl 2 (cutsL l))),(10,.p (pi l.length)),(11,.p (pi i))],[(5,.row 49 3 false (chs (typeF p (l.take i))))]⟩ =
  some (.ex 0,⟨[(1,.p (.sc (.string p))),(5,.ms 5 0 l.length),(9,.p (.sl 2 (cutsL l))),(10,.p (pi l.length)),(11,.p (pi l.length)),(12,.p (pb false))],[(5,.row 49 3 false (chs (typeF p l)))]⟩)
 | 0,i,hm=>by
  obtain rfl:i=l.length:=by omega
  rw[L_carets_Type_0,Taf,List.take_length]
  generalize chs (typeF p l)=O at *
  generalize cutsL l=R at *
  generalize l.length=z at *
  simp(disch:=omega)[Tad,-getElem?_pos]
 | m+1,i,hm=>by
  have hi:i<l.length:=by omega
  have ih:=Tms p l hl m (i+1) (by omega)
  have esn:chs (typeF p (l.take (i+1)))=chs (typeF p (l.take i))++ [[pi (loR l[i]),pi (hiR l[i]),.sc (.string p)]]:=by
   have ea:∀ a b:List Ch,chs (a++b)=chs a++chs b:=fun a b=>by simp[chs]
   unfold typeF
   rw[List.take_add_one,List.getElem?_eq_getElem hi,List.map_append,ea]
   rfl
  rw[esn]at ih
  exact Tv2 p (cutsL l) (chs (typeF p (l.take i))) l.length i l[i].1 l[i].2 _ _ _ (Taq l) hl hi (by rw[Tcv]; unfold typeF; rw[List.length_map,List.length_take]; omega) (Tds l i hi) (runSpan l[i]) ih
theorem runType (p:ByteArray)(l:List (Int×Int))(hl:l.length<=100):Run (EX cp) 74 [.sl 2 (cutsL l),.sc (.string p)]=some (.own 49 3 (chs (typeF p l))):=by
 have lp:=Tms (cp:=cp) p l hl l.length 0 (by omega)
 rw[List.take_zero,show((0:Nat):Int)=0 from rfl,show chs (typeF p [])= []from rfl]at lp
 have hbl:=Taq l
 have hol: (chs (typeF p l)).length=l.length:=by rw[Tcv]; exact List.length_map ..
 rw[Tah _ A_carets_Type _ rfl rfl rfl]
 generalize chs (typeF p l)=O at *
 generalize cutsL l=R at *
 simp[A_carets_Type,lp,hbl,hol]
def actV (k b g rk:Int)(c gs rs:List (List PV))(p:ByteArray)(s1 s2 s3:Int):List PV:= [pi k,pi b,pi g,pi rk,.sl 3 c,.sl 1 gs,.sl 2 rs,.sc (.string p),pi s1,pi s2,pi s3]
def vwE (E E':Eng)(r:PV)(sel sp br:List (List PV)):List (Nat×Ob):= [(0,.gr 90 5 [[.mp 1 0 0,.p r,.p (.sl 2 sel),.p (.sl 3 sp),.p (.sl 1 br)]]),(1,.gr 100 2 [[.p (.sl 5 (ats E'.l)),.mo 3]]),(2,.mpo E.U E.fl E.G E.F),(3,.mpo E'.U E'.fl E'.G E'.F)]
theorem vwType (E:Eng)(H:EOk E)(x:List PV)(sel:List (Int×Int))(hl:sel.length<=100)(sp br:List (List PV))(b g rk:Int)(hg:inR g)(c gs rs:List (List PV))(p:ByteArray)(hp:p.size<1000000)(s1 s2 s3:Int)(q:Int×Int×Eng)
 (hq:E.edit (E.fl+E.U.length-1) g 0 (typeF p sel)=q) (hq0:q.2.1=0) :
 Run (EX cp) 1000044 [.hp [.mp 0 0 0,.p (.st (actV 5 b g rk c gs rs p s1 s2 s3))] (vwH E (.pt x) (cutsL sel) sp br)]=some (.shr (.p (pi 0)) (vwE E q.2.2 (.pt x) (cutsL sel) sp br)):=by
 have c1:=vwHead (cp:=cp) E (.pt x) (cutsL sel) sp br
 have c2:=runType (cp:=cp) p sel hl
 have hlen: (typeF p sel).length=sel.length:=List.length_map ..
 have c3:=Tv1 (cp:=cp) E H false (E.fl+E.U.length-1) g 0 (typeF p sel) ⟨by rw[hlen]; omega,fun y hy=>by
  obtain⟨r,_,rfl⟩:=List.mem_map.1 hy
  exact hp⟩ hg
 rw[hq]at c3
 rw[if_pos hq0,hq0]at c3
 have hol:=Tcv (typeF p sel)
 simp only[cEditR,Eng.hpR,Eng.hp2R,engHR,engH2R]at c3
 unfold vwH at c1 ⊢
 unfold vwE
 obtain⟨q1,q2,E'⟩:=q
 simp only at c3 ⊢
 generalize chs (typeF p sel)=O at *
 rw[hlen]at c3 hol
 generalize cutsL sel=S at *
 rw[Tau _ 44 A_view_View_edits _ _ (by decide) (by decide) rfl rfl rfl rfl rfl (by simp)]
 simp(maxSteps:=2000000) (disch:=omega) [A_view_View_edits,actV,c1,c2,c3,hol,Taa,Tad]
theorem Tmt {s:ByteArray}(h:valid (L s)=true):cleanS s=s:=by
 unfold cleanS
 rw[Tbd _ h]; exact mk_L s
theorem vwTold (E:Eng)(H:EOk E)(hs:E.txt.size<=20000)(r:PV)(sel sp br:List (List PV)) :
 ∃ x,Rp (.pt x) E.txt/\Run (EX cp) 1000041 [.hp [.mp 0 0 0] (vwH E r sel sp br)]=some (.shr (.mp 0 0 0) (vwH E (.pt x) sel sp br)):=by
 have hv:valid (L E.txt)=true:=Tu2 H.tx _ _
 rcases ropeNew (cp:=cp) E.txt (by omega)with⟨h,_⟩ | ⟨_,r',h2,h3⟩
 · rw[Tmt hv]at h; omega
 · rw[Tmt hv]at h2
   have h2':=h2
   obtain⟨x0,P,e,_⟩:=h2'
   subst e
   refine⟨[x0],h2,?_⟩
   have c1:=vwHead (cp:=cp) E r sel sp br
   have c2:=engText (cp:=cp) E.l E.U E.fl E.G E.F (E.fl+E.U.length-1) H.fit2.fit (H.ul _) (by have:=H.u1; omega)
   have ht:txtS (E.fl+E.U.length-1) (undU E.U E.fl (E.fl+E.U.length-1)) E.l=E.txt:=rfl
   rw[ht]at c2
   generalize E.txt=s at *
   unfold vwH at c1 ⊢
   simp only[engH]at c2
   rw[Tau _ 41 A_view_View_told _ _ (by decide) (by decide) rfl rfl rfl rfl rfl (by simp)]
   simp(maxSteps:=1000000) (disch:=omega) [A_view_View_told,c1,c2,h3]
end Go.Proofs.YtjpibniecllafaaGreat.AM
end
