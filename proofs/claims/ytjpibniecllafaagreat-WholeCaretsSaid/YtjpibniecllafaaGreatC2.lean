/- Made by pack.py: AM9, AM10, AM11, AM12, AM13. No condition but what each says. -/
import Derived.Test.YtjpibniecllafaaGreatC1
import Derived.Laws.CopyOwn
import Derived.Lib.AppendStr
import Derived.Lib.OthersKept
import Derived.Laws.RangeString
set_option linter.unusedSimpArgs false
set_option linter.unusedVariables false
set_option maxHeartbeats 16000000
section
namespace Go.Proofs.YtjpibniecllafaaGreat.AM
open Go Go.RowKit
section
variable {P:Program}{base:Nat}{w0:World}{lm0:L0}{N:Nat}{g:Gs}{a:Act}{w:World}{s:St}{o:Oper}
theorem EffOK.mk' {u:Value}{w':World}{g':Gs}{e:Eff}{h':List (Nat×Ob)}(hh:putAll s.h e.hs=h')(hrun: (execOp a.eval o).run P w= .ok (.value u) w')(S':Sim base w0 lm0 N g' a w' ⟨s.t,h'⟩)(hr:SRep w' g' (get h') e.v u):EffOK P base w0 lm0 N g a w s o e :=
 ⟨u,w',g',.inl hrun,by rw[hh]; exact S',by rw[hh]; exact hr⟩
theorem Ta2 (w:World)(o:Obj):Below w.heap.size w (w.alloc o):= (Below.refl _ w).alloc (Nat.le_refl _) o
theorem Tb5 (w:World)(o:Obj):Below w.heap.size w (w.drew.alloc o):= ((Below.refl _ w).drew).alloc (Nat.le_refl _) o
theorem Sim.newRow (S:Sim base w0 lm0 N g a w s){id:Nat}(hid:get s.h id=none)(hid2:id<1000000){e k:Nat}(h0:0<k){l:List (List PV)}(hk:∀ c∈l,c.length=k){cs:Array Value}(hr:RepL w g.lm l.flatten cs.toList)(h1:∀ u∈cs.toList,u.oneCell'=true)(hm:l.length<=maxLen) :
 let w':=w.alloc (.cells cs e)
 let g':Gs:= ⟨upd g.lm w.heap.size 0,upd g.v id (.slice (some ⟨w.heap.size,0,none⟩) l.length l.length)⟩
 Sim base w0 lm0 N g' a w' ⟨s.t,AM.put s.h id (.row e k false l)⟩/\Tr w g (get s.h) w' g' (get (AM.put s.h id (.row e k false l))):=by
 intro w' g'
 have hlm:∀ b,b<w.heap.size->upd g.lm w.heap.size 0 b=g.lm b:=fun b h=>Tbc _ (by omega) _
 have hsz:cs.size=l.length*k:=by
  have:=hr.length
  rw[Tap hk]at this
  simpa using this.symm
 refine S.new hid hid2 (Ta2 w _) hlm rfl (fun b hb=> ?_) ⟨h0,hk,⟨cs.toList,?_,hr.ext (Ext.of_below (Ta2 w _) hlm),h1⟩,fun b hb=> ?_⟩
 · simp[blk]at hb; omega
 · simp only[Tai]
   exact World.ownsRow_lit w cs l.length S.bw hm hsz
 · simp only[Tai]at hb
   simp[blk]at hb
   subst hb
   exact Tai _ _ _
theorem Tg6 {w':World}{g':Gs}{h':List (Nat×Ob)}{id e k:Nat}{fz:Bool}{l:List (List PV)}{b n m:Nat}(hd:get h' id=some (.row e k fz l))(hv:g'.v id= .slice (some ⟨b,0,none⟩) n m):SRep w' g' (get h') (.mp id 0 0) (.pointer (some ⟨b,0,none⟩)):=by
 simp only[SRep,hd,hv]
 exact⟨b,rfl,by simp⟩
theorem Tbh {w':World}{g':Gs}{h':List (Nat×Ob)}{id e k:Nat}{fz:Bool}{l:List (List PV)}(hd:get h' id=some (.row e k fz l)){n:Nat}(hn:n=l.length):SRep w' g' (get h') (.ms id 0 n) (g'.v id):=by
 subst hn
 simp only[SRep,hd]
 exact⟨by omega,.inl (by simp)⟩
theorem Te5 {h h':List (Nat×Ob)}(hf:∀ d,Fz (get h d) (get h' d)){d id:Nat}(e:newId h d=some id):get h' id=none:= (Fz.none_iff (hf id)).1 (Tay e)
theorem Tza (S:Sim base w0 lm0 N g a w s){e k:Nat}(h0:0<k){call:Call}{d:Nat}{r:Eff}(ho:o.op= .move (.const (.slice none 0 0))∨o.op= .assign (.const (.slice none 0 0)))(he:eff call s d (.nl e k)=some r):EffOK P base w0 lm0 N g a w s o r:=by
 simp only[eff]at he
 cases hid:newId s.h d with
 | none=>rw[hid]at he; simp at he
 | some id =>
  rw[hid]at he
  simp only[oIE]at he
  subst he
  obtain⟨S',T'⟩:=S.new (lm':=g.lm) (v0:= .slice none 0 0) (o:= .row e k false []) (Tay hid) (Tbb hid) (Below.refl _ w) (fun _ _=>rfl) rfl (fun b hb=>by simp[blk]at hb)
   ⟨h0,by simp,⟨[],by simp only[Tai]; exact World.ownsRow_nil w base e k,.nil,by simp⟩,fun b hb=>by simp only[Tai]at hb; simp[blk]at hb⟩
  refine⟨.slice none 0 0,w,_,.inl ?_,S',?_⟩
  · rcases ho with ho | ho<;> simp[execOp,ho,Act.eval]
  · have:=Tbh (w':=w) (g':= ⟨g.lm,upd g.v id (.slice none 0 0)⟩) (h':=AM.put s.h id (.row e k false [])) (Tac _ _ _) (n:=0) rfl
    simp only[Tai]at this
    exact this
theorem Tst (S:Sim base w0 lm0 N g a w s){e k:Nat}(h0:0<k){x:Operand}{y:X}{call:Call}{d:Nat}{r:Eff}(ho:o.op= .box e x)(hx:okX x y=true)(he:eff call s d (.box e k y)=some r):EffOK P base w0 lm0 N g a w s o r:=by
 simp only[eff]at he
 cases hv:y.ev s with
 | none=>rw[hv]at he; simp at he
 | some v =>
  rw[hv]at he
  dsimp only at he
  cases hf:AM.frz s.h v with
  | none=>rw[hf]at he; simp at he
  | some q =>
   obtain⟨z,fr⟩:=q
   rw[hf]at he
   dsimp only at he
   cases hc:z.cells with
   | none=>rw[hc]at he; simp at he
   | some c =>
    rw[hc]at he
    dsimp only at he
    split at he
    case isFalse=>simp at he
    rename_i hck
    cases hid:newId s.h d with
    | none=>rw[hid]at he; simp at he
    | some id =>
     rw[hid]at he
     simp only[oIE]at he
     subst he
     obtain⟨lm',S1,r1,T1,F1⟩:=Tc0 S (fun d=>Fz.refl _) (Tag S hx hv) hf
     obtain⟨hr,h1⟩:=r1.cells hc
     obtain⟨S2,T2⟩:=S1.newRow (Te5 F1 hid) (Tbb hid) (e:=e) h0 (l:= [c]) (by simpa using hck) (cs:= (a.eval x).cells) (by simpa using hr) h1 (by simp[maxLen])
     refine EffOK.mk' (u:= .pointer (some ⟨w.heap.size,0,none⟩)) (Tak _ _ _) ?_ S2 (Tg6 (Tac _ _ _) (Tai _ _ _))
     simp[execOp,ho,Instr.box,newVar,Go.newRow]
def okV:Value->PV->Bool
 | .slice none 0 0,.sl _ []=>true
 | .slice none 0 0,.sc (.slice none 0 0)=>true
 | .nilFunc,.sc .nilFunc=>true
 | .nilIface,.sc .nilIface=>true
 | .pointer none,.sc (.pointer none)=>true
 | .map none,.sc (.map none)=>true
 | .int k n,.sc (.int k' n')=>decide (k=k')&&decide (n=n')
 | .bool b,.sc (.bool b')=>b == b'
 | .string s,.sc (.string s')=>s.data.toList == s'.data.toList
 | _,_=>false
def okZ:List Value->List PV->Bool
 | [],[]=>true
 | v::vs,x::xs=>okV v x&&okZ vs xs
 | _,_=>false
theorem Tsu {w:World}{lm:Nat->Nat}{v:Value}{x:PV}(h:okV v x=true):Rep w lm x v/\v.oneCell'=true:=by
 unfold okV at h
 split at h
 · exact⟨.sl0,rfl⟩
 · exact⟨.sc _,rfl⟩
 · exact⟨.sc _,rfl⟩
 · exact⟨.sc _,rfl⟩
 · exact⟨.sc _,rfl⟩
 · exact⟨.sc _,rfl⟩
 · simp at h; obtain⟨rfl,rfl⟩:=h; exact⟨.sc _,rfl⟩
 · simp at h; subst h; exact⟨.sc _,rfl⟩
 · rename_i s1 s2
   have:s1=s2:=by
    obtain⟨⟨x⟩⟩:=s1; obtain⟨⟨y⟩⟩:=s2
    simp at h; subst h; rfl
   subst this; exact⟨.sc _,rfl⟩
 · simp at h
theorem Tb9 {w:World}{lm:Nat->Nat}:∀ {vs:List Value} {xs:List PV},okZ vs xs=true->RepL w lm xs vs/\∀ u∈vs,u.oneCell'=true
 | [],[],_=> ⟨.nil,by simp⟩
 | v::vs,x::xs,h=>by
  simp only[okZ,Bool.and_eq_true]at h
  obtain⟨h1,h2⟩:=Tsu (w:=w) (lm:=lm) h.1
  obtain⟨h3,h4⟩:=Tb9 (w:=w) (lm:=lm) h.2
  exact⟨.cons h1 h3,by simpa using⟨h2,h4⟩⟩
 | [],_::_,h=>by simp[okZ]at h
 | _::_,[],h=>by simp[okZ]at h
theorem Tdj {t:TypeId}{z:Value}(h: (P.info? t).bind (·.zero)=some z)(w:World): (zeroValue t).run P w= .ok z w:=by
 cases hi:P.info? t with
 | none=>rw[hi]at h; simp at h
 | some i =>
  rw[hi]at h
  simp at h
  simp[zeroValue,typeInfo,hi,h]
theorem Tlf (S:Sim base w0 lm0 N g a w s){e k:Nat}(h0:0<k){rows:List (List PV)}{z:Value}{call:Call}{d:Nat}{r:Eff}(ho:o.op= .alloc e)(hz: (P.info? e).bind (·.zero)=some z)(hok:okZ z.cells.toList rows.flatten=true)(hk:∀ c∈rows,c.length=k)(hm:rows.length<=maxLen)
 (he:eff call s d (.alloc e k rows)=some r):EffOK P base w0 lm0 N g a w s o r:=by
 simp only[eff]at he
 cases hid:newId s.h d with
 | none=>rw[hid]at he; simp at he
 | some id =>
  rw[hid]at he
  simp only[oIE]at he
  subst he
  obtain⟨h2,h3⟩:=Tb9 (w:=w) (lm:=g.lm) hok
  obtain⟨S2,T2⟩:=S.newRow (Tay hid) (Tbb hid) (e:=e) h0 hk h2 h3 hm
  refine EffOK.mk' (u:= .pointer (some ⟨w.heap.size,0,none⟩)) rfl ?_ S2 (Tg6 (Tac _ _ _) (Tai _ _ _))
  simp[execOp,ho,Instr.alloc,Tdj hz,newVar,Go.newRow]
theorem Tsv {α:Type}:∀(h:List (Nat×α)) (d:Nat) (a b:α),put (put h d a) d b=put h d b
 | [],d,a,b=>by simp[put]
 | (e,u)::l,d,a,b=>by
  simp only[put]
  by_cases c0:e=d
  · rw[if_pos c0,if_pos c0]; simp[put]
  · rw[if_neg c0,if_neg c0]
    by_cases c1:d<e
    · rw[if_pos c1,if_pos c1]; simp[put]
    · rw[if_neg c1,if_neg c1]
      simp only[put]
      rw[if_neg c0,if_neg c1,Tsv l d a b]
theorem Tsw {e k id:Nat}{c:List PV}(h0:0<k){hs:List (Nat×Ob)}(H:EffOK P base w0 lm0 N g a w s o ⟨.mp id 0 0,hs++ [(id,.row e k false [c])]⟩):EffOK P base w0 lm0 N g a w s o ⟨.p (.pt c),hs++ [(id,.row e k true [c])]⟩:=by
 obtain⟨u,w',g',hx,S,T⟩:=H
 have e1:putAll s.h (hs++ [(id,.row e k false [c])])=put (putAll s.h hs) id (.row e k false [c]):=by rw[Tak]; rfl
 have e2:putAll s.h (hs++ [(id,.row e k true [c])])=put (putAll s.h hs) id (.row e k true [c]):=by rw[Tak]; rfl
 dsimp only at S T
 rw[e1]at S T
 have hf:AM.frz (put (putAll s.h hs) id (.row e k false [c])) (.mp id 0 0)=some (.pt c,[(id,.row e k true [c])]):=by
  simp only[AM.frz,Tac]
  simp[h0]
 obtain⟨lm',S1,r1,T1,F1⟩:=Tc0 S (fun d=>Fz.refl _) T hf
 refine⟨u,w',⟨lm',g'.v⟩,hx,?_,?_⟩
 · dsimp only
   rw[e2,← Tsv (putAll s.h hs) id (.row e k false [c]) (.row e k true [c])]
   exact S1
 · exact r1
theorem Tws (S:Sim base w0 lm0 N g a w s){e k:Nat}(h0:0<k){x:Operand}{y:X}{call:Call}{d:Nat}{r:Eff}(ho:o.op= .box e x)(hx:okX x y=true)(he:eff call s d (.boxp e k y)=some r):EffOK P base w0 lm0 N g a w s o r:=by
 simp only[eff]at he
 repeat' split at he
 all_goals first | (simp at he; done) | skip
 rename_i v hv _ z fr hf _ c hc hck _ id hid
 simp only[oIE]at he
 subst he
 refine Tsw h0 (Tst S h0 (call:=call) (d:=d) ho hx ?_)
 simp only[eff,hv,hf,hc,hid,hck,if_true]
theorem Twt (S:Sim base w0 lm0 N g a w s){e k:Nat}(h0:0<k){c:List PV}{z:Value}{call:Call}{d:Nat}{r:Eff}(ho:o.op= .alloc e)(hz: (P.info? e).bind (·.zero)=some z)(hok:okZ z.cells.toList [c].flatten=true)(hk:∀ x∈ [c],x.length=k)
 (he:eff call s d (.alcp e k c)=some r):EffOK P base w0 lm0 N g a w s o r:=by
 simp only[eff]at he
 split at he
 case h_2=>simp at he
 rename_i id hid
 simp only[oIE]at he
 subst he
 refine Tsw (hs:= []) h0 (Tlf S h0 (call:=call) (d:=d) ho hz hok hk (by simp[maxLen]) ?_)
 simp only[eff,hid,List.nil_append]
theorem Tj0:∀(l:List Value) (off i:Nat) (cs:Array Value),off+i+l.length<=cs.size-> ((l.zipIdx i).foldl (fun cs (p:Value×Nat)=>cs.setIfInBounds (off+p.2) p.1) cs).toList=cs.toList.take (off+i)++l++cs.toList.drop (off+i+l.length)
 | [],off,i,cs,h=>by simp
 | v::l,off,i,cs,h=>by
  simp only[List.zipIdx_cons,List.foldl_cons,List.length_cons]at h ⊢
  rw[Tj0 l off (i+1) (cs.setIfInBounds (off+i) v) (by simp; omega)]
  have e:=list_seg_step cs.toList (off+i) v l (by simp; omega)
  simpa[Array.toList_setIfInBounds,Nat.add_assoc]using e
inductive PartsR (P:Program) (w:World) (lm:Nat->Nat) (place:Nat->Option (Nat×Nat)):List (Nat×Nat×PV)->List (Nat×Value)->Prop
 | nil:PartsR P w lm place [] []
 | cons {off n x i v ps vs}:place i=some (off,n)->Rep w lm x v->PartsR P w lm place ps vs->PartsR P w lm place ((off,n,x)::ps) ((i,v)::vs)
theorem Td6 {lm:Nat->Nat}{place:Nat->Option (Nat×Nat)}:∀ {ps:List (Nat×Nat×PV)} {vs:List (Nat×Value)} {z cs:List PV} {zc:Array Value},PartsR P w lm place ps vs->fillP z ps=some cs->RepL w lm z zc.toList-> (∀ u∈zc.toList,u.oneCell'=true) ->
 ∃ cc,Instr.fill place zc vs=some cc/\RepL w lm cs cc.toList/\∀ u∈cc.toList,u.oneCell'=true
 | [],_,z,cs,zc,.nil,h,hr,h1=>by
  simp only[fillP,oIE]at h
  subst h
  exact⟨zc,rfl,hr,h1⟩
 | (off,n,x)::ps,_,z,cs,zc,.cons (i:=i) (v:=v) (vs:=vs) hp hx hps,h,hr,h1=>by
  simp only[fillP]at h
  cases hc:x.cells with
  | none=>rw[hc]at h; simp at h
  | some c =>
   rw[hc]at h
   dsimp only at h
   split at h
   case isFalse=>simp at h
   rename_i hcn
   obtain⟨hlen,hle⟩:=hcn
   obtain⟨hcr,hc1⟩:=hx.cells hc
   have hvl:v.cells.size=n:=by have:=hcr.length; simp at this; omega
   have hzl:z.length=zc.size:=by simpa using hr.length
   have hfs:=Tj0 v.cells.toList off 0 zc (by simp; omega)
   simp only[Nat.add_zero,Array.length_toList,hvl]at hfs
   have hr':RepL w lm (z.take off++c++z.drop (off+n)) (zc.toList.take off++v.cells.toList++zc.toList.drop (off+n)):= ((hr.take off).append hcr).append (hr.drop (off+n))
   have e1: (v.cells.zipIdx.foldl (fun cs (p:Value×Nat)=>cs.setIfInBounds (off+p.2) p.1) zc).toList=zc.toList.take off++v.cells.toList++zc.toList.drop (off+n):=by
    rw[← hfs,← Array.foldl_toList]
    simp
   have:=Td6 (ps:=ps) (vs:=vs) (cs:=cs) (zc:=v.cells.zipIdx.foldl (fun cs (p:Value×Nat)=>cs.setIfInBounds (off+p.2) p.1) zc) hps h (by rw[e1]; exact hr') (by
    rw[e1]
    intro u hu
    simp only[List.mem_append]at hu
    rcases hu with(hu | hu) | hu
    · exact h1 u (List.mem_of_mem_take hu)
    · exact hc1 u hu
    · exact h1 u (List.mem_of_mem_drop hu))
   obtain⟨cc,h3,h4,h5⟩:=this
   refine⟨cc,?_,h4,h5⟩
   rw[Instr.fill]
   simp only[hp]
   rw[if_neg (by simp[hvl]; omega)]
   exact h3
def okPs (place:Nat->Option (Nat×Nat)):List (Nat×Operand)->List (Nat×Nat×X)->Bool
 | [],[]=>true
 | (i,x)::ps,(off,n,y)::qs=> (match place i with | some (o',n')=>decide (o'=off)&&decide (n'=n) | none=>false)&&okX x y&&okPs place ps qs
 | _,_=>false
theorem Tcc (S:Sim base w0 lm0 N g a w s){place:Nat->Option (Nat×Nat)}:∀ {ps:List (Nat×Operand)} {qs:List (Nat×Nat×X)} {vs:List SV},okPs place ps qs=true->evs s (qs.map fun q=>q.2.2)=some vs ->
 SRepL w g (get s.h) vs (ps.map fun p=>a.eval p.2)/\∀ {ys:List PV} {w':World} {lm':Nat->Nat},RepL w' lm' ys (ps.map fun p=>a.eval p.2)->PartsR P w' lm' place ((qs.zip ys).map fun q=> (q.1.1,q.1.2.1,q.2)) (ps.map fun p=> (p.1,a.eval p.2))
 | [],[],vs,h,hv=>by
  simp only[List.map_nil,evs,oIE]at hv
  subst hv
  exact⟨.nil,fun h=>by cases h; exact .nil⟩
 | (i,x)::ps,(off,n,y)::qs,vs,h,hv=>by
  simp only[okPs,Bool.and_eq_true]at h
  obtain⟨⟨hp,hx⟩,h⟩:=h
  simp only[List.map_cons,evs]at hv
  cases h1:y.ev s with
  | none=>rw[h1]at hv; simp at hv
  | some v =>
   rw[h1]at hv; dsimp only at hv
   cases h2:evs s (qs.map fun q=>q.2.2)with
   | none=>rw[h2]at hv; simp at hv
   | some vs' =>
    rw[h2]at hv
    obtain rfl:=oIj hv
    obtain⟨r1,r2⟩:=Tcc S h h2
    refine⟨.cons (Tag S hx h1) r1,fun {ys w' lm'} hr=> ?_⟩
    cases hr with
    | cons q1 q2 =>
     refine .cons ?_ q1 (r2 q2)
     cases hpl:place i with
     | none=>rw[hpl]at hp; simp at hp
     | some q =>
      obtain⟨o',n'⟩:=q
      rw[hpl]at hp
      simp at hp
      rw[hp.1,hp.2]
 | [],_::_,_,h,_=>by simp[okPs]at h
 | _::_,[],_,h,_=>by simp[okPs]at h
def sizesOk (P:Program)(fs:List Field):Bool:=fs.all fun f=> (P.info? f.type).isSome
theorem Tix (fs:Array Field)(h:sizesOk P fs.toList=true)(w:World): (fs.mapM fun f=> (do pure (f.offset,← sizeOf f.type):Sem (Nat×Nat))).run P w= .ok (fs.map fun f=> (f.offset,P.cellsOf f.type)) w:=by
 have key:∀(l:List Field),sizesOk P l=true-> (l.mapM fun f=> (do pure (f.offset,← sizeOf f.type):Sem (Nat×Nat))).run P w= .ok (l.map fun f=> (f.offset,P.cellsOf f.type)) w:=by
  intro l
  induction l with
  | nil=>intro _; simp
  | cons f l ih =>
   intro hl
   simp only[sizesOk,List.all_cons,Bool.and_eq_true]at hl
   obtain⟨i,hi⟩:=Option.isSome_iff_exists.1 hl.1
   have hs: (sizeOf f.type).run P w= .ok (P.cellsOf f.type) w:=by simp[sizeOf,typeInfo,hi,Program.cellsOf]
   simp only[List.mapM_cons,Sem.run_bind,hs,Result.andThen_ok,Sem.run_pure,ih hl.2,List.map_cons]
 rw[Array.mapM_eq_mapM_toList,Sem.run_map,key fs.toList h]
 simp only[Result.andThen_ok]
 congr 1
 apply Array.ext'
 simp
theorem Tem (S:Sim base w0 lm0 N g a w s){t:TypeId}{fs:Array Field}{zv:Value}{z:List PV}{ps:Array (Nat×Operand)}{qs:List (Nat×Nat×X)}{call:Call}{d:Nat}{r:Eff}(ho:o.op= .build t ps)(ht:P.underlying t=some (.struct fs))(hz: (P.info? t).bind (·.zero)=some zv)(hok:okZ zv.cells.toList z=true)
 (hsz:sizesOk P fs.toList=true) (hps:okPs (fun i=> (fs[i]?).map fun f=> (f.offset,P.cellsOf f.type)) ps.toList qs=true) (he:eff call s d (.bld z qs)=some r):EffOK P base w0 lm0 N g a w s o r:=by
 simp only[eff]at he
 cases hv:evs s (qs.map fun q=>q.2.2)with
 | none=>rw[hv]at he; simp at he
 | some vs =>
  rw[hv]at he
  dsimp only at he
  cases hf:AM.frzs s.h vs with
  | none=>rw[hf]at he; simp at he
  | some q =>
   obtain⟨ys,fr⟩:=q
   rw[hf]at he
   dsimp only at he
   cases hc:fillP z ((qs.zip ys).map fun q=> (q.1.1,q.1.2.1,q.2))with
   | none=>rw[hc]at he; simp at he
   | some cs =>
    rw[hc]at he
    simp only[oIE]at he
    subst he
    obtain⟨r1,r2⟩:=Tcc (P:=P) S hps hv
    obtain⟨lm',S1,rl,T1,F1⟩:=Tcb S (fun d=>Fz.refl _) r1 hf
    obtain⟨z1,z2⟩:=Tb9 (w:=w) (lm:=lm') hok
    obtain⟨cc,h3,h4,h5⟩:=Td6 (r2 rl) hc z1 z2
    refine⟨.agg cc,w,_,.inl ?_,S1,?_⟩
    · have e1: (fun i:Nat=> ((fs.map fun f=> (f.offset,P.cellsOf f.type))[i]?:Option (Nat×Nat)))=fun i=> (fs[i]?).map fun f=> (f.offset,P.cellsOf f.type):=by
       funext i; simp
      simp only[execOp,ho,Instr.build,Sem.run_bind,Tdj hz,Result.andThen_ok,run_underlying ht,Tix fs hsz,Sem.run_pure,Array.toList_map]
      rw[e1]
      have h3':Instr.fill (fun i=> (fs[i]?).map fun f=> (f.offset,P.cellsOf f.type)) zv.cells (ps.toList.map fun x=> (x.1,a.eval x.2))=some cc:=h3
      simp only[h3']
      rfl
    · have:=Rep.st h4 h5
      rwa[show cc.toList.toArray=cc from by simp]at this
end
end Go.Proofs.YtjpibniecllafaaGreat.AM
end
section
namespace Go.Proofs.YtjpibniecllafaaGreat.AM
open Go Go.RowKit
section
variable {P:Program}{base:Nat}{w0:World}{lm0:L0}{N:Nat}{g:Gs}{a:Act}{w:World}{s:St}{o:Oper}
theorem Tdk {k:Nat}:∀ {l:List (List PV)} {i:Nat} {c:List PV},(∀ c∈l,c.length=k)->i<l.length-> (l.set i c).flatten=l.flatten.take (i*k)++c++l.flatten.drop (i*k+k)
 | [],i,c,_,h=>by simp at h
 | x::l,0,c,hk,h=>by
  have hx:=hk x (by simp)
  simp only[List.set_cons_zero,List.flatten_cons,Nat.zero_mul,List.take_zero,List.nil_append,Nat.zero_add]
  rw[show k=x.length from hx.symm,List.drop_left]
 | x::l,i+1,c,hk,h=>by
  have hx:=hk x (by simp)
  have ih:=Tdk (l:=l) (i:=i) (c:=c) (fun c hc=>hk c (by simp[hc])) (by simpa using h)
  have e: (i+1)*k=x.length+i*k:=by rw[Nat.add_mul,hx]; omega
  rw[List.set_cons_succ,List.flatten_cons,ih,List.flatten_cons,e,List.take_append,List.take_of_length_le (l:=x) (by omega),Nat.add_sub_cancel_left,show x.length+i*k+k=x.length+ (i*k+k)by omega,List.drop_append,List.drop_of_length_le (l:=x) (by omega),Nat.add_sub_cancel_left]
  simp[List.append_assoc]
theorem Tfn {k:Nat}:∀ {ps:List (Nat×PV)} {z rs:List (List PV)},(∀ c∈z,c.length=k)->fillR k z ps=some rs-> (∀ c∈rs,c.length=k)/\rs.length=z.length/\fillP z.flatten (ps.map fun p=> (p.1*k,k,p.2))=some rs.flatten
 | [],z,rs,hk,h=>by
  simp only[fillR,oIE]at h
  subst h
  exact⟨hk,rfl,rfl⟩
 | (i,x)::ps,z,rs,hk,h=>by
  simp only[fillR]at h
  cases hc:x.cells with
  | none=>rw[hc]at h; simp at h
  | some c =>
   rw[hc]at h
   dsimp only at h
   split at h
   case isFalse=>simp at h
   rename_i hci
   obtain⟨hck,hi⟩:=hci
   have hk':∀ c'∈z.set i c,c'.length=k:=by
    intro c' hc'
    rcases List.mem_or_eq_of_mem_set hc' with h1 | h1
    · exact hk _ h1
    · rw[h1]; exact hck
   obtain⟨h1,h2,h3⟩:=Tfn hk' h
   refine⟨h1,by simpa using h2,?_⟩
   simp only[List.map_cons,fillP,hc]
   have hb:i*k+k<=z.flatten.length:=by
    rw[Tap hk]
    have:=Nat.mul_le_mul_right k (show i+1<=z.length from hi)
    rw[Nat.add_mul]at this
    omega
   rw[if_pos ⟨hck,hb⟩,← Tdk hk hi]
   exact h3
def okRs (k:Nat):List (Nat×Operand)->List (Nat×X)->Bool
 | [],[]=>true
 | (i,x)::ps,(j,y)::qs=>decide (i=j)&&okX x y&&okRs k ps qs
 | _,_=>false
theorem Tg7 {k:Nat}:∀ {ps:List (Nat×Operand)} {qs:List (Nat×X)},okRs k ps qs=true->okPs (fun i=>some (i*k,k)) ps (qs.map fun q=> (q.1*k,k,q.2))=true
 | [],[],_=>rfl
 | (i,x)::ps,(j,y)::qs,h=>by
  simp only[okRs,Bool.and_eq_true,decide_eq_true_eq]at h
  obtain⟨⟨rfl,hx⟩,h⟩:=h
  simp[okPs,hx,Tg7 h]
 | [],_::_,h=>by simp[okRs]at h
 | _::_,[],h=>by simp[okRs]at h
theorem Tsx {k:Nat}:∀(qs:List (Nat×X)) (ys:List PV),(((qs.map fun q=> (q.1*k,k,q.2)).zip ys).map fun q=> (q.1.1,q.1.2.1,q.2))= ((qs.zip ys).map fun q=> (q.1.1,q.2)).map fun p=> (p.1*k,k,p.2)
 | [],ys=>by simp
 | q::qs,[]=>by simp
 | q::qs,y::ys=>by simp[Tsx qs ys]
def zeroRow (z:Array Value)(n:Nat):Array Value:= (Array.range n).map (z[· % z.size]!)
theorem Tmz {s:St}:∀ {l:List X} {ys:List PV},evp s l=some ys->evs s l=some (ys.map SV.p)/\∀ h,AM.frzs h (ys.map SV.p)=some (ys,[])
 | [],ys,h=>by
  simp only[evp,oIE]at h
  subst h
  exact⟨rfl,fun _=>rfl⟩
 | x ::l,ys,h=>by
  simp only[evp]at h
  split at h
  · rename_i y hy
    cases h2:evp s l with
    | none=>rw[h2]at h; simp at h
    | some zs =>
     rw[h2]at h
     obtain rfl:=oIj h
     obtain⟨q1,q2⟩:=Tmz h2
     refine⟨by simp only[evs,hy,q1,List.map_cons],fun h=> ?_⟩
     simp only[List.map_cons,AM.frzs,AM.frz,q2 h,List.nil_append]
  · simp at h
theorem Tzb {w:World}{g:Gs}{h:Nat->Option Ob}:∀ {ys:List PV} {us:List Value},SRepL w g h (ys.map SV.p) us->RepL w g.lm ys us
 | [],_,.nil=> .nil
 | y::ys,_,.cons a b=> .cons a (Tzb b)
theorem Sim.grow0 (S:Sim base w0 lm0 N g a w s){w':World}{lm':Nat->Nat}(hb:Below w.heap.size w w')(hl:∀ b,b<w.heap.size->lm' b=g.lm b):Sim base w0 lm0 N ⟨lm',g.v⟩ a w' s:=by
 have hext:=Ext.of_below hb hl
 exact S.turn (w':=w') (g':= ⟨lm',g.v⟩) (h':=s.h) ⟨hext,fun d o h=> .inr ⟨rfl,o,h,Shp.refl _⟩⟩ (hb.mono S.bw) (fun b h=>hl b (Nat.lt_of_lt_of_le h S.bw)) (fun d1 o1 h1=> (S.ob d1 o1 h1).keep (fun _ _=>rfl) hext fun hlv x hi b hbk=>by
  have:= ((S.ob d1 o1 h1).blockI hlv hi hbk).2
  exact⟨hb.block b this,hl b this⟩) S.lt S.ap (fun d e k l h1=> .inl ⟨h1,rfl,fun b hbk=>hb.block b ((S.ob d _ h1).block rfl hbk).2⟩) (fun b _ hbz hF=> ⟨⟨hb.block b hbz,hl b hbz⟩,hF⟩)
theorem T0i (S:Sim base w0 lm0 N g a w s){t el:TypeId}{k n:Nat}(h0:0<k){z:List (List PV)}{zc:Array Value}{ps:Array (Nat×Operand)}{qs:List (Nat×X)}{call:Call}{d:Nat}{r:Eff}(ho:o.op= .buildSlice t n ps)(ht:P.underlying t=some (.slice el))(hk:P.cellsOf el=k)
 (hzn:z.length=n) (hzk:∀ c∈z,c.length=k) (hzz:zc= (if n*k=0 then #[]else((P.info? el).bind (·.zero)).getD .nilFunc |>.cells)) (hzs:n*k=0∨ ((P.info? el).bind (·.zero)).isSome=true) (hok:okZ (zeroRow zc (n*k)).toList z.flatten=true)
 (hlim:n*k<=16777216) (hps:okRs k ps.toList qs=true) (he:eff call s d (.bsl el k z qs)=some r):EffOK P base w0 lm0 N g a w s o r:=by
 simp only[eff]at he
 cases hv:evs s (qs.map fun q=>q.2)with
 | none=>rw[hv]at he; simp at he
 | some vs =>
  rw[hv]at he
  dsimp only at he
  cases hf:AM.frzs s.h vs with
  | none=>rw[hf]at he; simp at he
  | some q =>
   obtain⟨ys,fr⟩:=q
   rw[hf]at he
   dsimp only at he
   cases hc:fillR k z ((qs.zip ys).map fun q=> (q.1.1,q.2))with
   | none=>rw[hc]at he; simp at he
   | some rs =>
    rw[hc]at he
    dsimp only at he
    cases hid:newId s.h d with
    | none=>rw[hid]at he; simp at he
    | some id =>
     rw[hid]at he
     simp only[oIE]at he
     subst he
     have hps':=Tg7 hps
     have hv':evs s ((qs.map fun q=> (q.1*k,k,q.2)).map fun q=>q.2.2)=some vs:=by simpa[List.map_map,Function.comp_def]using hv
     obtain⟨r1,r2⟩:=Tcc (P:=P) S hps' hv'
     obtain⟨lm',S1,rl,T1,F1⟩:=Tcb S (fun d=>Fz.refl _) r1 hf
     obtain⟨z1,z2⟩:=Tb9 (w:=w) (lm:=lm') hok
     obtain⟨hrk,hrn,hfp⟩:=Tfn hzk hc
     have hparts:=r2 rl
     rw[Tsx]at hparts
     obtain⟨cc,h3,h4,h5⟩:=Td6 hparts hfp z1 z2
     have hml:rs.length<=maxLen:=by
      have h6:n<=n*k:=Nat.le_mul_of_pos_right n h0
      simp[maxLen]; omega
     obtain⟨S2,T2⟩:=S1.newRow (Te5 F1 hid) (Tbb hid) (e:=el) h0 hrk h4 h5 hml
     refine EffOK.mk' (u:= .slice (some ⟨w.heap.size,0,none⟩) rs.length rs.length) (Tak _ _ _) ?_ S2 ?_
     · have hrl:rs.length=n:=by omega
       have h3':Instr.fill (fun i=>some (i*k,k)) ((Array.range (n*k)).map (zc[· % zc.size]!)) (ps.toList.map fun x=> (x.1,a.eval x.2))=some cc:=h3
       simp only[execOp,ho,Instr.buildSlice,Sem.run_bind,run_underlying ht,Result.andThen_ok,Tao hk h0]
       rw[if_neg (by omega)]
       by_cases hnk:n*k=0
       · rw[if_pos hnk]at hzz ⊢
         subst hzz
         simp only[Sem.run_bind,Sem.run_pure,Result.andThen_ok,Array.toList_map]
         rw[h3']
         simp[Go.newRow,hrl]
       · rw[if_neg hnk]at hzz ⊢
         rcases hzs with h | h
         · exact absurd h hnk
         · obtain⟨zv,hzv⟩:=Option.isSome_iff_exists.1 h
           rw[hzv]at hzz
           simp only[Option.getD_some]at hzz
           subst hzz
           simp only[Sem.run_bind,Tdj hzv,Sem.run_pure,Result.andThen_ok,Array.toList_map]
           rw[h3']
           simp[Go.newRow,hrl]
     · have:=Tbh (w':=w.alloc (.cells cc el)) (g':= ⟨upd lm' w.heap.size 0,upd g.v id (.slice (some ⟨w.heap.size,0,none⟩) rs.length rs.length)⟩) (h':=AM.put (putAll s.h fr) id (.row el k false rs)) (Tac _ _ _) (n:=rs.length) rfl
       simp only[Tai]at this
       exact this
theorem Twu (S:Sim base w0 lm0 N g a w s) {t el:TypeId} {k n:Nat} (h0:0<k) {z:List (List PV)} {zc:Array Value} {ps:Array (Nat×Operand)} {qs:List (Nat×X)} {call:Call} {d:Nat} {r:Eff} (ho:o.op= .buildSlice t n ps) (ht:P.underlying t=some (.slice el)) (hk:P.cellsOf el=k)
 (hzn:z.length=n) (hzk:∀ c∈z,c.length=k) (hzz:zc= (if n*k=0 then #[]else((P.info? el).bind (·.zero)).getD .nilFunc |>.cells)) (hzs:n*k=0∨ ((P.info? el).bind (·.zero)).isSome=true) (hok:okZ (zeroRow zc (n*k)).toList z.flatten=true)
 (hlim:n*k<=16777216) (hps:okRs k ps.toList qs=true) (he:eff call s d (.bslp el k z qs)=some r):EffOK P base w0 lm0 N g a w s o r:=by
 simp only[eff]at he
 cases hv0:evp s (qs.map fun q=>q.2)with
 | none=>rw[hv0]at he; simp at he
 | some ys =>
  rw[hv0]at he
  dsimp only at he
  cases hc:fillR k z ((qs.zip ys).map fun q=> (q.1.1,q.2))with
  | none=>rw[hc]at he; simp at he
  | some rs =>
   rw[hc]at he
   simp only[oIE]at he
   subst he
   obtain⟨hv,hf⟩:=Tmz hv0
   have hps':=Tg7 hps
   have hv':evs s ((qs.map fun q=> (q.1*k,k,q.2)).map fun q=>q.2.2)=some (ys.map SV.p):=by simpa[List.map_map,Function.comp_def]using hv
   obtain⟨r1,r2⟩:=Tcc (P:=P) S hps' hv'
   have rl:=Tzb r1
   obtain⟨z1,z2⟩:=Tb9 (w:=w) (lm:=g.lm) hok
   obtain⟨hrk,hrn,hfp⟩:=Tfn hzk hc
   have hparts:=r2 rl
   rw[Tsx]at hparts
   obtain⟨cc,h3,h4,h5⟩:=Td6 hparts hfp z1 z2
   have hrl:rs.length=n:=by omega
   have hcs:cc.size=n*k:=by
    have:=h4.length
    rw[Tap hrk,hrl]at this
    simpa using this.symm
   have hlm:∀ b,b<w.heap.size->upd g.lm w.heap.size (n*k) b=g.lm b:=fun b h=>Tbc _ (by omega) _
   have S2:=S.grow0 (Ta2 w (.cells cc el)) hlm
   have hext:=Ext.of_below (Ta2 w (.cells cc el)) hlm
   refine⟨.slice (some ⟨w.heap.size,0,none⟩) rs.length rs.length,w.alloc (.cells cc el),⟨upd g.lm w.heap.size (n*k),g.v⟩,.inl ?_,S2,?_⟩
   · have h3':Instr.fill (fun i=>some (i*k,k)) ((Array.range (n*k)).map (zc[· % zc.size]!)) (ps.toList.map fun x=> (x.1,a.eval x.2))=some cc:=h3
     simp only[execOp,ho,Instr.buildSlice,Sem.run_bind,run_underlying ht,Result.andThen_ok,Tao hk h0]
     rw[if_neg (by omega)]
     by_cases hnk:n*k=0
     · rw[if_pos hnk]at hzz ⊢
       subst hzz
       simp only[Sem.run_bind,Sem.run_pure,Result.andThen_ok,Array.toList_map]
       rw[h3']
       simp[Go.newRow,hrl]
     · rw[if_neg hnk]at hzz ⊢
       rcases hzs with h | h
       · exact absurd h hnk
       · obtain⟨zv,hzv⟩:=Option.isSome_iff_exists.1 h
         rw[hzv]at hzz
         simp only[Option.getD_some]at hzz
         subst hzz
         simp only[Sem.run_bind,Tdj hzv,Sem.run_pure,Result.andThen_ok,Array.toList_map]
         rw[h3']
         simp[Go.newRow,hrl]
   · show Rep _ _ (.sl k rs) _
     cases rs with
     | nil=>exact .sl0
     | cons c rs =>
      refine .sl h0 hrk (h4.ext hext) (fun j u hu=> ?_) (Nat.le_refl _)
      have hj:j<cc.toList.length:= (List.getElem?_eq_some_iff.1 hu).1
      have hg: (w.alloc (.cells cc el)).heap[w.heap.size]?=some (.cells cc el (0,0)):=by simp only[World.alloc]; exact Array.getElem?_push_size
      refine⟨?_,?_,h5 u (List.mem_of_getElem? hu)⟩
      · rw[Nat.zero_add,cell_of_row _ w.heap.size j cc el (0,0) hg]
        simpa using hu
      · show 0+j<upd g.lm w.heap.size (n*k) w.heap.size
        rw[Tai]
        simp at hj; omega
theorem Sim.setRow (S:Sim base w0 lm0 N g a w s){d e k:Nat}{l l':List (List PV)}(hd:get s.h d=some (.row e k false l))(hl:l'.length=l.length)(hk:∀ c∈l',c.length=k){b:Nat}{xs:List Value}{cur:Array Value}{cap:Nat}(hv:g.v d= .slice (some ⟨b,0,none⟩) l.length cap)(hb:base<=b)(hc:l.length<=cap)(hm:cap<=maxLen)
 (hg:w.heap[b]?=some (.cells cur e (0,0))) {new:Array Value} (hn:new.size=cap*k) (hrl:RepL w g.lm l'.flatten xs) (hx:new.toList.take (l.length*k)=xs) (h1:∀ u∈xs,u.oneCell'=true) :
 Sim base w0 lm0 N g a (w.setRow b new) ⟨s.t,AM.put s.h d (.row e k false l')⟩/\Tr w g (get s.h) (w.setRow b new) g (get (AM.put s.h d (.row e k false l'))):=by
 have hblk:blk (g.v d)=some b:=by rw[hv]; rfl
 have hlm:g.lm b=0:= (S.ob d _ hd).2.2.2 b hblk
 have hext:Ext w g.lm (w.setRow b new) g.lm:=by
  exact Ext.blocks fun b' _ h0=> ⟨setRow_other w b b' new (fun e'=>by subst e'; omega),rfl⟩
 refine⟨S.cells1 hd ⟨rfl,hl.symm⟩ rfl rfl rfl hext (below_setRow (Below.refl _ _) hb _) (fun b' hb' _=> ⟨setRow_other _ _ _ _ (fun e=>hb' (by rw[hblk,e])),rfl⟩) ⟨(S.ob d _ hd).1,hk,⟨xs,?_,hrl.ext hext,h1⟩,fun b' hb'=> ?_⟩,⟨hext,fun d1 o1 hd1=> .inr ⟨rfl,?_⟩⟩⟩
 · refine⟨?_,.inr ⟨b,cap,new,by rw[hl]; exact hv,hb,setRow_heap _ _ _ _ _ _ hg,by omega,hm,hn,by rw[hl]; exact hx⟩⟩
   rw[← hrl.length,Tap hk]
 · rw[hblk]at hb'
   obtain rfl:=oIj hb'
   simpa using hlm
 · by_cases e':d=d1
   · subst e'
     rw[hd]at hd1
     obtain rfl:=oIj hd1
     exact⟨_,Tac _ _ _,rfl,hl.symm⟩
   · exact⟨o1,by rw[Tae _ e']; exact hd1,Shp.refl _⟩
theorem Tsy (S:Sim base w0 lm0 N g a w s){d e k:Nat}{fz:Bool}{l:List (List PV)}(hd:get s.h d=some (.row e k fz l)){b:Nat}(hb:blk (g.v d)=some b) :
 ∃ cap cur xs,g.v d= .slice (some ⟨b,0,none⟩) l.length cap/\base<=b/\l.length<=cap/\cap<=maxLen/\w.heap[b]?=some (.cells cur e (0,0))/\cur.size=cap*k/\cur.toList.take (l.length*k)=xs/\RepL w g.lm l.flatten xs/\∀ u∈xs,u.oneCell'=true:=by
 obtain⟨h1,h2,⟨xs,h3,h4,h5⟩,h6⟩:=S.ob d _ hd
 rcases h3.2 with⟨hv,_⟩ | ⟨b',cap,cur,hv,q1,q2,q3,q4,q5,q6⟩
 · rw[hv]at hb; simp[blk]at hb
 · rw[hv]at hb; simp[blk]at hb; subst hb
   exact⟨cap,cur,xs,hv,q1,q3,q4,q2,q5,q6,h4,h5⟩
theorem T0j (S:Sim base w0 lm0 N g a w s) {t:TypeId} {k:Nat} (h0:0<k) {x y:Operand} {x' y':X} {call:Call} {d:Nat} {r:Eff} (ho:o.op= .store t x y) (hk:P.cellsOf t=k) (hx:okX x x'=true) (hy:okX y y'=true) (he:eff call s d (.sto k x' y')=some r):EffOK P base w0 lm0 N g a w s o r:=by
 simp only[eff]at he
 cases hvx:x'.ev s with
 | none=>rw[hvx]at he; simp at he
 | some vx =>
  cases hvy:y'.ev s with
  | none=>rw[hvx,hvy]at he; cases vx<;> simp at he
  | some vy =>
   rw[hvx,hvy]at he
   cases vx with
   | mp d' i j =>
    dsimp only at he
    cases hf:AM.frz s.h vy with
    | none=>rw[hf]at he; simp at he
    | some q =>
     obtain⟨z0,fr⟩:=q
     rw[hf]at he
     dsimp only at he
     cases hyc:z0.cells with
     | none=>rw[hyc]at he; simp at he
     | some yc =>
      rw[hyc]at he
      dsimp only at he
      split at he
      case isFalse=>simp at he
      rename_i hyk
      cases hd:get s.h d' with
      | none=>rw[hd]at he; simp at he
      | some ob =>
       cases ob with
       | row e k' fz l =>
        cases fz with
        | true=>rw[hd]at he; simp at he
        | false =>
         rw[hd]at he
         dsimp only at he
         cases hc:l[i]? with
         | none=>rw[hc]at he; simp at he
         | some c =>
          rw[hc]at he
          dsimp only at he
          split at he
          case isFalse=>simp at he
          rename_i hcond
          obtain⟨hjk,hall⟩:=hcond
          simp only[oIE]at he
          subst he
          obtain⟨lm',S1,r1,T1,F1⟩:=Tc0 S (fun d=>Fz.refl _) (Tag S hy hvy) hf
          have hd1:get (putAll s.h fr) d'=some (.row e k' false l):=by
           have:∀(fr h:List (Nat×Ob)),(fr.all fun q=>q.1 !=d')=true->get (putAll h fr) d'=get h d':=by
            intro fr
            induction fr with
            | nil=>intro h _; rfl
            | cons q fr ih =>
             intro h hh
             simp only[List.all_cons,Bool.and_eq_true]at hh
             obtain⟨q1,q2⟩:=q
             rw[putAll,ih _ hh.2,Tae _ (by simpa using hh.1)]
           rw[this fr s.h hall,hd]
          have hr:= (Tag S hx hvx).tr T1
          obtain⟨_,hk',b,xs0,hu,hb,_⟩:=S1.row hd1 hr
          obtain⟨cap,cur,xs,hv,hbase,hlc,hcm,hg,hcs,hxs,hrl,h1⟩:=Tsy S1 hd1 hb
          obtain⟨hcr,hc1⟩:=r1.cells hyc
          have hil:i<l.length:= (List.getElem?_eq_some_iff.1 hc).1
          have hck:c.length=k':=hk' c (List.mem_of_getElem? hc)
          have hvn: (a.eval y).cells.size=k:=by have:=hcr.length; simp at this; omega
          have hin:i*k'+k'<=l.length*k':=by
           have:=Nat.mul_le_mul_right k' (show i+1<=l.length from hil)
           rwa[Nat.add_mul,Nat.one_mul]at this
          have hcap:l.length*k'<=cap*k':=Nat.mul_le_mul_right k' hlc
          have hxl:xs.length=l.length*k':=by rw[← hrl.length,Tap hk']
          have hst:=run_storeCells_at P b (i*k'+j) e (a.eval y).cells.toList 0 cur w hg (by simp; omega) hc1
          simp only[Nat.add_zero,Array.length_toList,hvn]at hst
          have hrun: (execOp a.eval o).run P w= .ok .skip (w.setRow b (cur.toList.take (i*k'+j)++ (a.eval y).cells.toList++cur.toList.drop (i*k'+j+k)).toArray):=by
           simp only[execOp,ho,Instr.storeAt,hu,Instr.sureAddr,storeVar,Sem.run_bind,Sem.run_pure,Result.andThen_ok,Tao hk h0,hvn,ne_eq,not_true,if_false,hst]
          have hnk:∀ c'∈l.set i (c.take j++yc++c.drop (j+k)),c'.length=k':=by
           intro c' hc'
           rcases List.mem_or_eq_of_mem_set hc' with h2 | h2
           · exact hk' _ h2
           · rw[h2]; simp; omega
          have hfl: (l.set i (c.take j++yc++c.drop (j+k))).flatten=l.flatten.take (i*k'+j)++yc++l.flatten.drop (i*k'+j+k):=by
           rw[Tdk hk' hil]
           have hdi: (l.drop i).flatten=c++ (l.drop (i+1)).flatten:=by
            rw[List.drop_eq_getElem_cons hil,List.flatten_cons]; congr 1
            simpa[List.getElem?_eq_getElem hil]using hc
           have e3:l.flatten.drop (i*k'+k')= (l.drop (i+1)).flatten:=by
            rw[← List.drop_drop,Tat i hk',hdi]
            conv=>lhs; rw[← hck]
            rw[List.drop_left]
           have e1:l.flatten.take (i*k'+j)=l.flatten.take (i*k')++c.take j:=by
            rw[List.take_add,Tat i hk',hdi,List.take_append_of_le_length (by omega)]
           have e2:l.flatten.drop (i*k'+j+k)=c.drop (j+k)++l.flatten.drop (i*k'+k'):=by
            rw[show i*k'+j+k=i*k'+ (j+k)by omega,← List.drop_drop,Tat i hk',hdi,List.drop_append_of_le_length (by omega),e3]
           rw[e1,e2]
           simp[List.append_assoc]
          have hnew: ((cur.toList.take (i*k'+j)++ (a.eval y).cells.toList++cur.toList.drop (i*k'+j+k)).toArray.toList.take (l.length*k'))=xs.take (i*k'+j)++ (a.eval y).cells.toList++xs.drop (i*k'+j+k):=by
           rw[← hxs]
           simp only[List.take_append,List.length_append,List.length_take,Array.length_toList,List.take_take,List.drop_take,hvn]
           rw[List.take_of_length_le (l:= (a.eval y).cells.toList) (by simp; omega)]
           congr 2
           · congr 1; omega
           · congr 1; omega
          obtain⟨S2,T2⟩:=S1.setRow hd1 (l':=l.set i (c.take j++yc++c.drop (j+k))) (by simp) hnk hv hbase hlc hcm hg (new:= (cur.toList.take (i*k'+j)++ (a.eval y).cells.toList++cur.toList.drop (i*k'+j+k)).toArray) (by simp; omega)
           (xs:=xs.take (i*k'+j)++ (a.eval y).cells.toList++xs.drop (i*k'+j+k)) (by rw[hfl]; exact((hrl.take _).append hcr).append (hrl.drop _)) hnew (by
            intro u hu
            simp only[List.mem_append]at hu
            rcases hu with(hu | hu) | hu
            · exact h1 u (List.mem_of_mem_take hu)
            · exact hc1 u hu
            · exact h1 u (List.mem_of_mem_drop hu))
          exact⟨undef,_,_,.inr ⟨hrun,rfl⟩,by rw[Tak]; exact S2,Rep.sc _⟩
       | _=>rw[hd]at he; simp at he
   | _=>simp at he
end
end Go.Proofs.YtjpibniecllafaaGreat.AM
end
section
namespace Go.Proofs.YtjpibniecllafaaGreat.AM
open Go Go.RowKit
section
variable {P:Program}{base:Nat}{w0:World}{lm0:L0}{N:Nat}{g:Gs}{a:Act}{w:World}{s:St}{o:Oper}
theorem Tg8 {t tx ty e:TypeId}{dx:TypeDesc}{i:TypeInfo}{z:Value}(ht:P.underlying t=some (.slice e))(htx:P.underlying tx=some dx)(hdx:∀ k,dx≠ .int k)(hi:P.info? e=some i)(hz:i.zero=some z)(hzs:z.cells.size=i.size)
 {v x:Value} {n m:Nat} {xs news:List Value} (hown:w.ownsRow base e i.size v n xs) (hl:news.length=m*i.size) (h1:∀ u∈news,u.oneCell'=true) (hlen:∀ w',(Builtin.lenOf x).run P w'= .ok m w')
 (hf:∀ w',w'.heap=w.heap-> (Builtin.firstCells i.size m x).run P w'= .ok news.toArray w') (h63:n+m<=maxLen) (hby: (n+m)*i.bytes<=140737488355328) (hbase:base<=w.heap.size) :
 ∃ v' w',(Builtin.append_ #[t,tx] ty #[v,x]).run P w= .ok v' w'/\w'.ownsRow base e i.size v' (n+m) (xs++news) /\
  ((blk v'=blk v/\w'.os=w.os/\w'.tape=w.tape/\w'.output=w.output/\w'.heap.size=w.heap.size/\∀ b,blk v≠some b->w'.heap[b]?=w.heap[b]?)∨ (blk v'=some w.heap.size/\Below w.heap.size w w')):=by
 have hsmall:n+m<=9223372036854775807:=by simp only[maxLen]at h63; omega
 have hxl:=hown.1
 have hlen': (xs++news).length= (n+m)*i.size:=by rw[List.length_append,hxl,hl,Nat.add_mul]
 have hzero: (match dx with | .int _=>true | _=>false)=false:=by cases dx<;> first | rfl | exact absurd rfl (hdx _)
 have grown:∀(old:Nat),old<n+m ->
  (w.drew.alloc (.cells (xs.toArray++news.toArray++Builtin.zeroCells z.cells (grownCap w (n+m) old e- (n+m))) e)).ownsRow base e i.size
   (.slice (some ⟨w.heap.size,0,none⟩) (n+m) (grownCap w (n+m) old e)) (n+m) (xs++news):=by
  intro old ho
  have hge:=grownCap_ge w (n+m) old e
  have hcm:=grownCap_le_maxLen w (n+m) old e h63
  refine⟨hlen',.inr ⟨w.heap.size,_,_,rfl,hbase,heap_alloc_new w.drew _,hge,hcm,?_,?_⟩⟩
  · simp only[Array.size_append,List.size_toArray,size_zeroCells,hzs,hxl,hl,← Nat.add_mul]
    congr 1
    omega
  · simp only[Array.toList_append,List.append_assoc]
    rw[← List.append_assoc,← hlen']
    exact List.take_left
 rcases hown.2 with⟨rfl,rfl⟩ | ⟨b,cap,cur,rfl,hbg,hg,hnc,hcm,hcs,htake⟩
 · have hx:xs= []:=List.eq_nil_of_length_eq_zero (by simpa using hxl)
   subst hx
   by_cases hm:m=0
   · subst hm
     have hn:news= []:=List.eq_nil_of_length_eq_zero (by simpa using hl)
     subst hn
     refine⟨.slice none 0 0,w,?_,hown,.inl ⟨rfl,rfl,rfl,rfl,rfl,fun _ _=>rfl⟩⟩
     have:=hf w rfl
     simp[Builtin.append_,run_underlying ht,run_underlying htx,sizeOf,typeInfo,hi,hlen,hzero,this]
   · have h63':¬ (9223372036854775807< (m:Int)):=by omega
     have h48':¬ (281474976710656<Builtin.nextslicecap m 0*i.bytes):=by rw[nextslicecap_zero (by omega)]; have hb:=hby; simp only[Nat.zero_add]at hb; omega
     have hfd:=hf w.drew rfl
     have hgr:=grown 0 (by omega)
     simp only[Nat.zero_add,List.nil_append,Array.empty_append]at hgr ⊢
     refine⟨_,_,?_,hgr,.inr ⟨rfl,Tb5 w _⟩⟩
     simp[Builtin.append_,run_underlying ht,run_underlying htx,sizeOf,typeInfo,zeroValue,hi,hz,hlen,hzero,hm,h63',h48',Question.forced,run_firstCells_none,hfd,Go.newRow,grownCap]
 · by_cases hroom:n+m<=cap
   · have hfit:n*i.size+news.length<=cur.size:=by rw[hl,hcs,← Nat.add_mul]; exact Nat.mul_le_mul_right _ hroom
     have hst:=run_storeCells_at P b (n*i.size) e news 0 cur w hg (by simpa using hfit) h1
     simp only[Nat.add_zero]at hst
     have hfw:=hf w rfl
     refine⟨.slice (some ⟨b,0,none⟩) (n+m) cap,w.setRow b (cur.toList.take (n*i.size)++news++cur.toList.drop (n*i.size+news.length)).toArray,?_,⟨hlen',.inr ⟨b,cap,_,rfl,hbg,setRow_heap w b cur _ e _ hg,hroom,hcm,?_,?_⟩⟩,.inl ⟨rfl,rfl,rfl,rfl,by simp,fun b' hb'=>setRow_other w b b' _ (fun e=>hb' (by rw[e]; rfl))⟩⟩
     · simp[Builtin.append_,run_underlying ht,run_underlying htx,sizeOf,typeInfo,hi,hlen,hzero,hroom,hfw,Addr.add_lit,hst]
     · simp only[List.size_toArray,List.length_append,List.length_take,List.length_drop,Array.length_toList]
       omega
     · rw[htake,← hlen']
       exact List.take_left
   · have holds:∀ j u,xs[j]?=some u->w.cell? ((⟨b,0,none⟩:Addr).add j)=some u:=hown.cells (g:=b) rfl
     have hn:¬ (n+m<=cap):=hroom
     have h63':¬ (9223372036854775807< ((n:Int)+ (m:Int))):=by omega
     have h48':¬ (281474976710656<Builtin.nextslicecap (n+m) cap*i.bytes):=by have:=growslice_fits (show cap<n+m by omega) hby; omega
     have hfd:=hf w.drew rfl
     have hfo:=run_firstCells_some (P:=P) w.drew i.size n ⟨b,0,none⟩ n cap xs hxl (by simpa using holds)
     refine⟨_,_,?_,grown cap (by omega),.inr ⟨rfl,Tb5 w _⟩⟩
     simp[Builtin.append_,run_underlying ht,run_underlying htx,sizeOf,typeInfo,zeroValue,hi,hz,hlen,hzero,hn,h63',h48',Question.forced,hfd,hfo,Go.newRow,grownCap]
     congr 2
     apply Array.ext'
     simp[List.append_assoc]
theorem Sim.grow (S:Sim base w0 lm0 N g a w s){d id e k:Nat}{l l':List (List PV)}(hd:get s.h d=some (.row e k false l))(hid:get s.h id=none)(hid2:id<1000000){w':World}{v':Value}{xs':List Value}(hk:∀ c∈l',c.length=k)(hown:w'.ownsRow base e k v' l'.length xs')(hr:RepL w g.lm l'.flatten xs')(h1:∀ u∈xs',u.oneCell'=true)
 (hc: (blk v'=blk (g.v d)/\w'.os=w.os/\w'.tape=w.tape/\w'.output=w.output/\w'.heap.size=w.heap.size/\∀ b,blk (g.v d)≠some b->w'.heap[b]?=w.heap[b]?)∨ (blk v'=some w.heap.size/\Below w.heap.size w w')) :
 ∃ g':Gs,g'.v id=v'/\Sim base w0 lm0 N g' a w' ⟨s.t,AM.put (AM.put s.h d .dead) id (.row e k false l')⟩:=by
 have hlm0:∀ b,blk (g.v d)=some b->g.lm b=0:=fun b hb=>by simpa using(S.ob d _ hd).2.2.2 b hb
 have hne:id≠d:=fun h=>by rw[h,hd]at hid; simp at hid
 let lm':Nat->Nat:=fun b=>if b=w.heap.size then 0 else g.lm b
 have hbl:∀ b,b<w.heap.size->lm' b=g.lm b:=fun b h=>if_neg (by omega)
 have hheap:∀ b,b<w.heap.size->blk (g.v d)≠some b->w'.heap[b]?=w.heap[b]?:=by
  intro b hb hb'
  rcases hc with⟨_,_,_,_,_,h⟩ | ⟨_,h⟩
  · exact h b hb'
  · exact h.block b hb
 have hext:Ext w g.lm w' lm':=by
  exact Ext.blocks fun b hb ho=> ⟨hheap b hb (fun h=>by have:=hlm0 b h; omega),hbl b hb⟩
 have hbelow:Below base w w':=by
  rcases hc with⟨h0,h1,h2,h3,h4,h5⟩ | ⟨_,h⟩
  · refine⟨h1,h2,h3,by omega,fun b hb=>h5 b fun hq=> ?_⟩
    have:= ((S.ob d _ hd).block rfl hq).1
    omega
  · exact h.mono S.bw
 have hv'lm:∀ b,blk v'=some b->lm' b=0:=by
  intro b hb
  rcases hc with⟨h0,_⟩ | ⟨h0,_⟩
  · rw[h0]at hb
    rw[hbl b ((S.ob d _ hd).block rfl hb).2,hlm0 b hb]
  · rw[h0]at hb
    obtain rfl:=oIj hb
    exact if_pos rfl
 have hni:∀ d1 o1 x,get s.h d1=some o1->Ids d1 o1 x->x≠id:=fun d1 o1 x h1 hi e=>by
  have:=hi.lt (by rw[e]; exact hid2)
  rw[← this,e,hid]at h1
  simp at h1
 have keep:∀ {d1 o1},get (AM.put (AM.put s.h d .dead) id (.row e k false l')) d1=some o1->id≠d1->o1.live=true->get s.h d1=some o1/\d≠d1:=by
  intro d1 o1 h hi hl
  rw[Tae _ hi]at h
  by_cases h3:d=d1
  · rw[← h3,Tac]at h
    obtain rfl:=oIj h
    simp[Ob.live]at hl
  · rw[Tae _ h3]at h
    exact⟨h,h3⟩
 refine⟨⟨lm',upd g.v id v'⟩,Tai _ _ _,S.turn ⟨hext,fun d1 o1 hd1=> ?_⟩ hbelow (fun b hb=>hbl b (Nat.lt_of_lt_of_le hb S.bw)) (fun d1 o1 hd1=> ?_) (fun d1 o1 hd1=> ?_) ?_ (fun d1 e1 k1 l1 hd1=> ?_) (fun b hK hbz hF=> ⟨⟨hheap b hbz (fun hq=>hF d _ d hd rfl (.self _ _) hq),hbl b hbz⟩,fun d1 o1 x hd1 l1 hi hbk=> ?_⟩)⟩
 · have h2:d1≠id:=fun h=>by rw[h,hid]at hd1; simp at hd1
   rw[Tae _ (Ne.symm h2)]
   by_cases h3:d=d1
   · exact .inl ⟨by subst h3; rw[hd]at hd1; obtain rfl:=oIj hd1; rfl,by rw[← h3,Tac]⟩
   · exact .inr ⟨Tbc _ h2 _,o1,by rw[Tae _ h3]; exact hd1,Shp.refl _⟩
 · by_cases h2:id=d1
   · subst h2
     rw[Tac]at hd1
     obtain rfl:=oIj hd1
     refine⟨(S.ob d _ hd).1,hk,⟨xs',by simp only[Tai]; exact hown,hr.ext hext,h1⟩,fun b hb=> ?_⟩
     simp only[Tai]at hb
     simpa using hv'lm b hb
   · rw[Tae _ h2]at hd1
     by_cases h3:d=d1
     · subst h3
       rw[Tac]at hd1
       obtain rfl:=oIj hd1
       trivial
     · rw[Tae _ h3]at hd1
       refine(S.ob d1 o1 hd1).keep (fun x hi=>Tbc _ (hni d1 o1 x hd1 hi) _) hext fun hl x hi b hb=> ?_
       have hb2:= ((S.ob d1 o1 hd1).blockI hl hi hb).2
       exact⟨hheap b hb2 fun hq=>S.far hd hd1 rfl hl (.self _ _) hi (S.ne hd hd1 h3 (.self _ _) hi) hq hb,hbl b hb2⟩
 · by_cases h2:id=d1
   · subst h2; exact hid2
   · rw[Tae _ h2]at hd1
     by_cases h3:d=d1
     · subst h3; exact S.lt _ _ hd
     · rw[Tae _ h3]at hd1; exact S.lt _ _ hd1
 · obtain⟨own,hap⟩:=S.ap
   refine⟨fun b=>if blk v'=some b then id else own b,fun d1 o1 x b hd1 l1 hi hb=> ?_⟩
   dsimp only
   by_cases h2:id=d1
   · subst h2
     rw[Tac]at hd1
     obtain rfl:=oIj hd1
     obtain rfl:=hi.plain rfl
     simp only[Tai]at hb
     exact if_pos hb
   · obtain⟨q1,q2⟩:=keep hd1 h2 l1
     simp only[Tbc _ (hni d1 o1 x q1 hi)]at hb
     rw[if_neg]
     · exact hap d1 o1 x b q1 l1 hi hb
     · intro hb'
       have hb2:= ((S.ob d1 o1 q1).blockI l1 hi hb).2
       rcases hc with⟨h0,_⟩ | ⟨h0,_⟩
       · rw[h0]at hb'
         exact S.far hd q1 rfl l1 (.self _ _) hi (S.ne hd q1 q2 (.self _ _) hi) hb' hb
       · rw[h0]at hb'
         have:=oIj hb'
         omega
 · by_cases h2:id=d1
   · subst h2
     rw[Tac]at hd1
     simp at hd1
   · rw[Tae _ h2]at hd1
     by_cases h3:d=d1
     · subst h3
       rw[Tac]at hd1
       simp at hd1
     · rw[Tae _ h3]at hd1
       refine .inl ⟨hd1,Tbc _ (Ne.symm h2) _,fun b hb=> ?_⟩
       exact hheap b ((S.ob d1 _ hd1).block rfl hb).2 fun hq=>S.far hd hd1 rfl rfl (.self _ _) (.self _ _) h3 hq hb
 · by_cases h2:id=d1
   · subst h2
     rw[Tac]at hd1
     obtain rfl:=oIj hd1
     obtain rfl:=hi.plain rfl
     simp only[Tai]at hbk
     rcases hc with⟨h0,_⟩ | ⟨h0,_⟩
     · rw[h0]at hbk
       exact hF d _ d hd rfl (.self _ _) hbk
     · rw[h0]at hbk
       have:=oIj hbk
       omega
   · obtain⟨q1,q2⟩:=keep hd1 h2 l1
     simp only[Tbc _ (hni d1 o1 x q1 hi)]at hbk
     exact hF d1 o1 x q1 l1 hi hbk
end
end Go.Proofs.YtjpibniecllafaaGreat.AM
end
section
namespace Go.Proofs.YtjpibniecllafaaGreat.AM
open Go Go.RowKit
section
variable {P:Program}{base:Nat}{w0:World}{lm0:L0}{N:Nat}{g:Gs}{a:Act}{w:World}{s:St}{o:Oper}
def elOk (P:Program)(e k by_:Nat):Bool:=match P.info? e with
 | some i=>decide (i.size=k)&&decide (i.bytes=by_)&& (match i.zero with | some z=>decide (z.cells.size=k) | none=>false)
 | none=>false
theorem Tbp {e k by_:Nat}(h:elOk P e k by_=true):∃ i z,P.info? e=some i/\i.zero=some z/\i.size=k/\i.bytes=by_/\z.cells.size=k:=by
 unfold elOk at h
 cases hi:P.info? e with
 | none=>rw[hi]at h; simp at h
 | some i =>
  rw[hi]at h
  simp only[Bool.and_eq_true,decide_eq_true_eq]at h
  obtain⟨⟨h1,h2⟩,h3⟩:=h
  cases hz:i.zero with
  | none=>rw[hz]at h3; simp at h3
  | some z=>rw[hz]at h3; exact⟨i,z,rfl,hz,h1,h2,by simpa using h3⟩
theorem Tlg {ad:Option Addr}{len cap k:Nat}{news:List Value}(hn:len=0/\news= []∨∃ b o,ad=some ⟨b,o,none⟩/\∀ j u,news[j]?=some u->w.cell? ⟨b,o+j,none⟩=some u)(hl:news.length=len*k) :
 (∀ w',(Builtin.lenOf (.slice ad len cap)).run P w'= .ok len w')/\∀ w',w'.heap=w.heap-> (Builtin.firstCells k len (.slice ad len cap)).run P w'= .ok news.toArray w':=by
 refine⟨fun w'=>rfl,fun w' hw=> ?_⟩
 rcases hn with⟨rfl,rfl⟩ | ⟨b,o,rfl,hc⟩
 · cases ad with
   | none=>rfl
   | some ad=>simp[Builtin.firstCells,loadCells,loadCellsFrom]
 · exact run_firstCells_some (P:=P) w' k len ⟨b,o,none⟩ len cap news hl (fun j v hv=>by rw[add_n]; rw[World.cell?_of_block (w:=w) (by rw[hw])]; exact hc j v hv)
theorem T0k (S:Sim base w0 lm0 N g a w s) {t:TypeId} {e k by_:Nat} (h0:0<k) {x y:Operand} {x' y':X} {call:Call} {d:Nat} {r:Eff} (ho:o.op= .call {callee:= .builtin .append,args:= #[x,y],argTypes:= #[t,t]}) (ht:P.underlying t=some (.slice e)) (hel:elOk P e k by_=true)
 (hx:okX x x'=true) (hy:okX y y'=true) (he:eff call s d (.app e k by_ x' y')=some r):EffOK P base w0 lm0 N g a w s o r:=by
 obtain⟨i,z,hi,hz,rfl,rfl,hzs⟩:=Tbp hel
 simp only[eff]at he
 cases hvx:x'.ev s with
 | none=>rw[hvx]at he; simp at he
 | some vx =>
  cases hvy:y'.ev s with
  | none=>rw[hvx,hvy]at he; simp at he
  | some vy =>
   rw[hvx,hvy]at he
   dsimp only at he
   cases hes:elems s.h vy with
   | none=>rw[hes]at he; simp at he
   | some q =>
    obtain⟨k2,ys⟩:=q
    rw[hes]at he
    dsimp only at he
    split at he
    case isFalse=>simp at he
    rename_i hk2
    subst hk2
    have hrx:=Tag S hx hvx
    obtain⟨ady,capy,huy,hcy,hly⟩:=Teo S (Tag S hy hvy) hes
    obtain⟨news,hn1,hn2,hn3,hyk⟩:∃ news,(ys.length=0/\news= []∨∃ b o,ady=some ⟨b,o,none⟩/\∀ j u,news[j]?=some u->w.cell? ⟨b,o+j,none⟩=some u)/\RepL w g.lm ys.flatten news/\ (∀ u∈news,u.oneCell'=true)/\∀ c∈ys,c.length=i.size:=by
     rcases hly with rfl | ⟨_,hk,b,of,vs,rfl,hrl,hm,h1⟩
     · exact⟨[],.inl ⟨rfl,rfl⟩,.nil,by simp,by simp⟩
     · exact⟨vs,.inr ⟨b,of,rfl,hm⟩,hrl,h1,hk⟩
    have hnl:news.length=ys.length*i.size:=by rw[← hn2.length,Tap hyk]
    obtain⟨hlen,hf⟩:=Tlg (P:=P) (cap:=capy) hn1 hnl
    cases vx with
    | ms d' off len =>
     dsimp only at he
     cases hd:get s.h d' with
     | none=>rw[hd]at he; simp at he
     | some ob =>
      cases ob with
      | row e' k' fz l =>
       cases fz with
       | true=>rw[hd]at he; simp at he
       | false =>
        rw[hd]at he
        dsimp only at he
        split at he
        case isFalse=>simp at he
        rename_i hc
        obtain⟨rfl,rfl,rfl,rfl,hby,h63⟩:=hc
        cases hid:newId s.h d with
        | none=>rw[hid]at he; simp at he
        | some id =>
         rw[hid]at he
         simp only[oIE]at he
         subst he
         simp only[SRep,hd]at hrx
         have hux:a.eval x=g.v d':=by
          rcases hrx.2 with h | h
          · exact h.2.2
          · exact absurd h.1 (by simp)
         obtain⟨_,hk',⟨xs,h3,h4,h5⟩,_⟩:=S.ob d' _ hd
         obtain⟨v',w',hrun,hown,hcase⟩:=Tg8 (P:=P) (ty:=o.type) ht ht (by simp) hi hz hzs h3 hnl hn3 hlen hf (by simp only[maxLen]; omega) (by simpa[maxBytes]using hby) S.bw
         obtain⟨g',hg',S'⟩:=S.grow hd (Tay hid) (Tbb hid) (l':=l++ys) (xs':=xs++news) (by
          intro c hc
          rcases List.mem_append.1 hc with h | h
          · exact hk' c h
          · exact hyk c h) (by rw[List.length_append]; exact hown) (by rw[List.flatten_append]; exact h4.append hn2) (by
          intro u hu
          rcases List.mem_append.1 hu with h | h
          · exact h5 u h
          · exact hn3 u h) hcase
         refine EffOK.mk' (u:=v') rfl ?_ S' ?_
         · simp only[execOp,ho,resolve,invoke,builtin,Sem.run_bind,Sem.run_pure,Result.andThen_ok,List.map_toArray,List.map_cons,List.map_nil,hux,huy,hrun]
         · have:=Tbh (w':=w') (g':=g') (h':=AM.put (AM.put s.h d' .dead) id (.row e' i.size false (l++ys))) (Tac _ _ _) (n:=l.length+ys.length) (by simp)
           rw[hg']at this
           exact this
      | _=>rw[hd]at he; simp at he
    | xs k' l =>
     dsimp only at he
     split at he
     case isFalse=>simp at he
     rename_i hc
     obtain⟨rfl,hby,h63⟩:=hc
     obtain⟨adx,hux,_,hk',hlx⟩:=hrx
     cases ys with
     | nil =>
      rw[if_pos List.length_nil]at he
      simp only[oIE]at he
      subst he
      refine EffOK.pure S (u:=a.eval x) ?_ (Tag S hx hvx)
      have h9:=hf w rfl
      rcases hn1 with⟨_,rfl⟩ | ⟨b,of,rfl,_⟩
      · simp only[List.length_nil]at h9 huy
        cases adx<;> simp[execOp,ho,resolve,invoke,builtin,hux,huy,Builtin.append_,run_underlying ht,sizeOf,typeInfo,hi,Builtin.lenOf,h9,storeCells]
      · have hnn:news= []:=List.eq_nil_of_length_eq_zero (by simpa using hnl)
        subst hnn
        simp only[List.length_nil]at h9 huy
        cases adx<;> simp[execOp,ho,resolve,invoke,builtin,hux,huy,Builtin.append_,run_underlying ht,sizeOf,typeInfo,hi,Builtin.lenOf,h9,storeCells]
     | cons y0 ys =>
      rw[if_neg (by simp)]at he
      cases hid:newId s.h d with
      | none=>rw[hid]at he; simp at he
      | some id =>
       rw[hid]at he
       simp only[oIE]at he
       subst he
       have hpos:0< (y0::ys).length:=by simp
       generalize hys:y0::ys=yy at *
       clear hys
       obtain⟨olds,ho1,ho2,ho3⟩:∃ olds,(l.length=0/\olds= []∨∃ b o,adx=some ⟨b,o,none⟩/\∀ j u,olds[j]?=some u->w.cell? ⟨b,o+j,none⟩=some u)/\RepL w g.lm l.flatten olds/\∀ u∈olds,u.oneCell'=true:=by
        rcases hlx with rfl | ⟨b,of,vs,rfl,hrl,hm⟩
        · exact⟨[],.inl ⟨rfl,rfl⟩,.nil,by simp⟩
        · refine⟨vs,.inr ⟨b,of,rfl,fun j u h=> (hm j u h).1⟩,hrl,fun u hu=> ?_⟩
          obtain⟨j,hj,e⟩:=List.getElem_of_mem hu
          exact(hm j u (by rw[List.getElem?_eq_getElem hj,e])).2.2
       have hol:olds.length=l.length*i.size:=by rw[← ho2.length,Tap hk']
       obtain⟨_,hfo⟩:=Tlg (P:=P) (cap:=l.length) ho1 hol
       have n1:¬ (l.length+yy.length<=l.length):=by omega
       have n2:¬ (9223372036854775807< ((l.length:Int)+ (yy.length:Int))):=by omega
       have n3:¬ (281474976710656<Builtin.nextslicecap (l.length+yy.length) l.length*i.bytes):=by
        have:=growslice_fits (show l.length<l.length+yy.length by omega) (by simpa[maxBytes]using hby)
        omega
       have hge:=grownCap_ge w (l.length+yy.length) l.length e
       have hcm:=grownCap_le_maxLen w (l.length+yy.length) l.length e (by simp only[maxLen]; omega)
       have hrun: (execOp a.eval o).run P w= .ok (.value (.slice (some ⟨w.heap.size,0,none⟩) (l.length+yy.length) (grownCap w (l.length+yy.length) l.length e))) (w.drew.alloc (.cells (olds.toArray++news.toArray++Builtin.zeroCells z.cells (grownCap w (l.length+yy.length) l.length e- (l.length+yy.length))) e)):=by
        have q1:=hf w.drew rfl
        have q2:=hfo w.drew rfl
        simp only[execOp,ho,resolve,invoke,builtin,Sem.run_bind,Sem.run_pure,Result.andThen_ok,List.map_toArray,List.map_cons,List.map_nil,hux,huy]
        simp[Builtin.append_,run_underlying ht,sizeOf,typeInfo,zeroValue,hi,hz,Builtin.lenOf,n1,n2,n3,Question.forced,q1,q2,Go.newRow,grownCap]
        congr 2
        apply Array.ext'
        simp[List.append_assoc]
       have hB:=Tb5 w (.cells (olds.toArray++news.toArray++Builtin.zeroCells z.cells (grownCap w (l.length+yy.length) l.length e- (l.length+yy.length))) e)
       have hll: (l++yy).length=l.length+yy.length:=by simp
       have hxsl: (olds++news).length= (l++yy).length*i.size:=by rw[List.length_append,hol,hnl,hll,Nat.add_mul]
       have hlm:∀ b,b<w.heap.size->upd g.lm w.heap.size 0 b=g.lm b:=fun b h=>Tbc _ (by omega) _
       obtain⟨S',T'⟩:=S.new (id:=id) (Tay hid) (Tbb hid) hB (lm':=upd g.lm w.heap.size 0) hlm (hop:=rfl) (v0:= .slice (some ⟨w.heap.size,0,none⟩) (l.length+yy.length) (grownCap w (l.length+yy.length) l.length e)) (o:= .row e i.size false (l++yy))
        (fun b hb=>by simp[blk]at hb; omega)
        ⟨h0, by
         intro c hc
         rcases List.mem_append.1 hc with h | h
         · exact hk' c h
         · exact hyk c h,⟨olds++news,by
           simp only[Tai]
           refine⟨hxsl,.inr ⟨w.heap.size,_,_,by rw[hll],S.bw,heap_alloc_new w.drew _,by rw[hll]; exact hge,hcm,?_,?_⟩⟩
           · simp only[Array.size_append,List.size_toArray,size_zeroCells,hzs,hol,hnl,← Nat.add_mul]
             congr 1
             omega
           · simp only[Array.toList_append,List.append_assoc]
             rw[← List.append_assoc,← hxsl]
             exact List.take_left,by rw[List.flatten_append]; exact(ho2.append hn2).ext (Ext.of_below hB hlm),by
           intro u hu
           rcases List.mem_append.1 hu with h | h
           · exact ho3 u h
           · exact hn3 u h⟩,fun b hb=>by
           simp only[Tai]at hb
           simp[blk]at hb
           subst hb
           simp[Tai]⟩
       refine EffOK.mk' rfl hrun S' ?_
       have:=Tbh (w':=w.drew.alloc (.cells (olds.toArray++news.toArray++Builtin.zeroCells z.cells (grownCap w (l.length+yy.length) l.length e- (l.length+yy.length))) e)) (g':= ⟨upd g.lm w.heap.size 0,upd g.v id (.slice (some ⟨w.heap.size,0,none⟩) (l.length+yy.length) (grownCap w (l.length+yy.length) l.length e))⟩) (h':=AM.put s.h id (.row e i.size false (l++yy))) (Tac _ _ _) (n:=l.length+yy.length) (by simp)
       simp only[Tai]at this
       exact this
    | _=>simp at he
theorem Tlh {lm:Nat->Nat}(b:List UInt8):RepL w lm ((b.map fun b=> [PV.sc (.int .u8 b.toNat)]).flatten) (b.map fun b=>Value.int .u8 b.toNat):=by
 induction b with
 | nil=>exact .nil
 | cons x b ih=>exact .cons (.sc _) ih
theorem Twv (S:Sim base w0 lm0 N g a w s) {t tx:TypeId} {e by_:Nat} {x y:Operand} {x' y':X} {call:Call} {d:Nat} {r:Eff} (ho:o.op= .call {callee:= .builtin .append,args:= #[x,y],argTypes:= #[t,tx]}) (ht:P.underlying t=some (.slice e)) (htx:P.underlying tx=some .string) (hel:elOk P e 1 by_=true)
 (hx:okX x x'=true) (hy:okX y y'=true) (he:eff call s d (.apps e by_ x' y')=some r):EffOK P base w0 lm0 N g a w s o r:=by
 obtain⟨i,z,hi,hz,hi1,rfl,hzs⟩:=Tbp hel
 simp only[eff]at he
 cases hvx:x'.ev s with
 | none=>rw[hvx]at he; simp at he
 | some vx =>
  cases hvy:y'.ev s with
  | none=>rw[hvx,hvy]at he; cases vx<;> simp at he
  | some vy =>
   rw[hvx,hvy]at he
   split at he
   case h_2=>simp at he
   rename_i d' off len st h1 h2
   obtain rfl:=oIj h1
   obtain rfl:=oIj h2
   have hrx:=Tag S hx hvx
   have huy:=Ta6 (ev_p S hy hvy)
   cases hd:get s.h d' with
   | none=>rw[hd]at he; simp at he
   | some ob =>
    cases ob with
    | row e' k' fz l =>
     cases fz with
     | true=>rw[hd]at he; simp at he
     | false =>
      rw[hd]at he
      dsimp only at he
      split at he
      case isFalse=>simp at he
      rename_i hc
      obtain⟨rfl,rfl,rfl,rfl,hby,h63⟩:=hc
      cases hid:newId s.h d with
      | none=>rw[hid]at he; simp at he
      | some id =>
       rw[hid]at he
       simp only[oIE]at he
       subst he
       simp only[SRep,hd]at hrx
       have hux:a.eval x=g.v d':=by
        rcases hrx.2 with h | h
        · exact h.2.2
        · exact absurd h.1 (by simp)
       obtain⟨_,hk',⟨xs,h3,h4,h5⟩,_⟩:=S.ob d' _ hd
       have hbl: (st.data.toList.map fun b=>Value.int .u8 b.toNat).length=st.size:=by simp
       obtain⟨v',w',hrun,hown,hcase⟩:=Tg8 (P:=P) (ty:=o.type) (x:= .string st) (m:=st.size) (news:=st.data.toList.map fun b=>Value.int .u8 b.toNat) ht htx (by simp) hi hz (by rw[hzs,hi1]) (by rw[hi1]; exact h3) (by rw[hbl,hi1,Nat.mul_one]) (by simp[Value.oneCell']) (fun w'=>rfl) (fun w' _=>by
        rw[hi1]
        have:=Lib.run_firstCells_string (P:=P) w' 1 st
        rw[this]; rfl) (by simp only[maxLen]; omega) (by simpa[maxBytes]using hby) S.bw
       rw[hi1]at hown
       have hln: (l++st.data.toList.map fun b=> [PV.sc (.int .u8 b.toNat)]).length=l.length+st.size:=by simp
       obtain⟨g',hg',S'⟩:=S.grow hd (Tay hid) (Tbb hid) (l':=l++st.data.toList.map fun b=> [PV.sc (.int .u8 b.toNat)]) (xs':=xs++st.data.toList.map fun b=>Value.int .u8 b.toNat) (by
        intro c hc
        rcases List.mem_append.1 hc with h | h
        · exact hk' c h
        · obtain⟨b,_,rfl⟩:=List.mem_map.1 h; rfl) (by rw[hln]; exact hown) (by rw[List.flatten_append]; exact h4.append (Tlh _)) (by
        intro u hu
        rcases List.mem_append.1 hu with h | h
        · exact h5 u h
        · obtain⟨b,_,rfl⟩:=List.mem_map.1 h; rfl) hcase
       refine EffOK.mk' (u:=v') rfl ?_ S' ?_
       · simp only[execOp,ho,resolve,invoke,builtin,Sem.run_bind,Sem.run_pure,Result.andThen_ok,List.map_toArray,List.map_cons,List.map_nil,hux,huy,hrun]
       · have:=Tbh (w':=w') (g':=g') (h':=AM.put (AM.put s.h d' .dead) id (.row e' 1 false (l++st.data.toList.map fun b=> [PV.sc (.int .u8 b.toNat)]))) (Tac _ _ _) (n:=l.length+st.size) hln.symm
         rw[hg']at this
         exact this
    | _=>rw[hd]at he; simp at he
end
end Go.Proofs.YtjpibniecllafaaGreat.AM
end
section
namespace Go.Proofs.YtjpibniecllafaaGreat.AM
open Go Go.RowKit
section
variable {P:Program}{base:Nat}{w0:World}{lm0:L0}{N:Nat}{g:Gs}{a:Act}{w:World}{s:St}{o:Oper}
theorem Tio (z:Array Value)(n:Nat)(hz:0<z.size): (madeCells z ((n+1)*z.size)).toList= (madeCells z (n*z.size)).toList++z.toList:=by
 have e1:∀ m,(madeCells z m).toList= (List.range m).map fun i=>z[i % z.size]! :=fun m=>by simp[madeCells,Array.toList_range]
 rw[e1,e1,Nat.add_mul,Nat.one_mul,List.range_add,List.map_append,List.map_map]
 congr 1
 apply List.ext_getElem?
 intro j
 by_cases hj:j<z.size
 · have h1: (n*z.size+j) % z.size=j:=by rw[Nat.mul_comm,Nat.mul_add_mod]; exact Nat.mod_eq_of_lt hj
   simp[hj,h1]
 · simp[hj]
theorem Tof {lm:Nat->Nat}{z:Array Value}{zp:List PV}(hz:0<z.size)(h:RepL w lm zp z.toList)(h1:∀ u∈z.toList,u.oneCell'=true):∀ n,RepL w lm (List.replicate n zp).flatten (madeCells z (n*z.size)).toList/\∀ u∈ (madeCells z (n*z.size)).toList,u.oneCell'=true
 | 0=>by simp[madeCells]; exact .nil
 | n+1=>by
  obtain⟨h2,h3⟩:=Tof hz h h1 n
  rw[Tio z n hz,List.replicate_succ',List.flatten_append]
  refine⟨h2.append (by simpa using h),fun u hu=> ?_⟩
  rcases List.mem_append.1 hu with h4 | h4
  · exact h3 u h4
  · exact h1 u h4
theorem T0l (S:Sim base w0 lm0 N g a w s) {t:TypeId} {e k by_:Nat} (h0:0<k) {z:List PV} {zv:Value} {x y:Operand} {x' y':X} {call:Call} {d:Nat} {r:Eff} (ho:o.op= .makeSlice t x y) (ht:P.underlying t=some (.slice e)) (hel:elOk P e k by_=true) (hz: (P.info? e).bind (·.zero)=some zv) (hok:okZ zv.cells.toList z=true)
 (hx:okX x x'=true) (hy:okX y y'=true) (he:eff call s d (.mks e k by_ z x' y')=some r):EffOK P base w0 lm0 N g a w s o r:=by
 obtain⟨i,z',hi,hz',rfl,rfl,hzs⟩:=Tbp hel
 have hzz:zv=z':=by rw[hi]at hz; simp[hz']at hz; exact hz.symm
 subst hzz
 simp only[eff]at he
 cases hvx:x'.ev s with
 | none=>rw[hvx]at he; simp at he
 | some vx =>
  cases hvy:y'.ev s with
  | none=>rw[hvx,hvy]at he; simp at he
  | some vy =>
   rw[hvx,hvy]at he
   dsimp only at he
   cases hnx:natOf vx with
   | none=>rw[hnx]at he; simp at he
   | some n =>
    cases hny:natOf vy with
    | none=>rw[hnx,hny]at he; simp at he
    | some m =>
     rw[hnx,hny]at he
     dsimp only at he
     split at he
     case isFalse=>simp at he
     rename_i hc
     obtain⟨hnm,hby,h63⟩:=hc
     cases hid:newId s.h d with
     | none=>rw[hid]at he; simp at he
     | some id =>
      rw[hid]at he
      simp only[oIE]at he
      subst he
      obtain⟨kx,hux⟩:=Tbg S hx hvx hnx
      obtain⟨ky,huy⟩:=Tbg S hy hvy hny
      obtain⟨q1,q2⟩:=Tb9 (w:=w) (lm:=g.lm) hok
      have hrun:=run_make (P:=P) w t e i zv ht hi hz' kx ky n m (by omega) (by omega) (by
       have: ((i.bytes*m:Nat):Int)<=281474976710656:=by
        have:i.bytes*m=m*i.bytes:=Nat.mul_comm _ _
        simp only[maxBytes]at hby
        omega
       rwa[Int.natCast_mul]at this) (by omega)
      simp only[Int.toNat_natCast]at hrun
      rw[← hzs]at hrun
      have hzl:z.length=i.size:=by rw[q1.length,Array.length_toList,hzs]
      obtain⟨q3,q4⟩:=Tof (n:=n) (by rw[hzs]; exact h0) q1 q2
      have hsz: (madeCells zv.cells (m*zv.cells.size)).size=m*i.size:=by rw[size_madeCells,hzs]
      have htake: (madeCells zv.cells (m*zv.cells.size)).toList.take (n*i.size)= (madeCells zv.cells (n*zv.cells.size)).toList:=by
       have e1:∀ m,(madeCells zv.cells m).toList= (List.range m).map fun i=>zv.cells[i % zv.cells.size]! :=fun m=>by simp[madeCells,Array.toList_range]
       rw[e1,e1,← List.map_take,List.take_range,hzs,Nat.min_eq_left (Nat.mul_le_mul_right _ hnm)]
      have hB:=Ta2 w (.cells (madeCells zv.cells (m*zv.cells.size)) e)
      have hlm:∀ b,b<w.heap.size->upd g.lm w.heap.size 0 b=g.lm b:=fun b h=>Tbc _ (by omega) _
      obtain⟨S',T'⟩:=S.new (id:=id) (Tay hid) (Tbb hid) hB (lm':=upd g.lm w.heap.size 0) hlm (hop:=rfl) (v0:= .slice (some ⟨w.heap.size,0,none⟩) n m) (o:= .row e i.size false (List.replicate n z))
       (fun b hb=>by simp[blk]at hb; omega)
       ⟨h0,by
        intro c hc
        rw[List.eq_of_mem_replicate hc]; exact hzl,⟨(madeCells zv.cells (n*zv.cells.size)).toList,by
        simp only[Tai]
        refine⟨?_,.inr ⟨w.heap.size,m,_,by simp,S.bw,heap_alloc_new w _,by simpa using hnm,by simp only[maxLen]; omega,hsz,by simpa using htake⟩⟩
        simp[size_madeCells,hzs],q3.ext (Ext.of_below hB hlm),q4⟩,fun b hb=>by
        simp only[Tai]at hb
        simp[blk]at hb
        subst hb
        simp[Tai]⟩
      refine EffOK.mk' (u:= .slice (some ⟨w.heap.size,0,none⟩) n m) rfl ?_ S' ?_
      · simp only[execOp,ho,hux,huy,Sem.run_bind,hrun,Result.andThen_ok,Sem.run_pure]
      · have:=Tbh (w':=w.alloc (.cells (madeCells zv.cells (m*zv.cells.size)) e)) (g':= ⟨upd g.lm w.heap.size 0,upd g.v id (.slice (some ⟨w.heap.size,0,none⟩) n m)⟩) (h':=AM.put s.h id (.row e i.size false (List.replicate n z))) (Tac _ _ _) (n:=n) (by simp)
        simp only[Tai]at this
        exact this
theorem Tsz (S :Sim base w0 lm0 N g a w s) {t t2 el:TypeId} {k:Nat} (h0:0<k) {x y:Operand} {x' y':X} {call:Call} {d:Nat} {r:Eff} (ho:o.op= .call {callee:= .builtin .copy,args:= #[x,y],argTypes:= #[t,t2]}) (ht:P.underlying t=some (.slice el)) (hk:P.cellsOf el=k)
 (hx:okX x x'=true) (hy:okX y y'=true) (he:eff call s d (.cpy k x' y')=some r):EffOK P base w0 lm0 N g a w s o r:=by
 simp only[eff]at he
 cases hvx:x'.ev s with
 | none=>rw[hvx]at he; simp at he
 | some vx =>
  cases hvy:y'.ev s with
  | none=>rw[hvx,hvy]at he; cases vx<;> simp at he
  | some vy =>
   rw[hvx,hvy]at he
   cases vx with
   | ms d' off len =>
    dsimp only at he
    cases hes:elems s.h vy with
    | none=>rw[hes]at he; simp at he
    | some q =>
     obtain⟨k2,ys⟩:=q
     rw[hes]at he
     dsimp only at he
     cases hd:get s.h d' with
     | none=>rw[hd]at he; simp at he
     | some ob =>
      cases ob with
      | row e k' fz l =>
       cases fz with
       | true=>rw[hd]at he; simp at he
       | false =>
        rw[hd]at he
        dsimp only at he
        split at he
        case isFalse=>simp at he
        rename_i hc
        obtain⟨rfl,rfl,hol⟩:=hc
        simp only[oIE]at he
        subst he
        have hrx:=Tag S hx hvx
        obtain⟨adx,capx,hux,hcx⟩:=Tdi S hrx (n:=len) (by simp[svLen,hd])
        obtain⟨ady,capy,huy,hcy,hly⟩:=Teo S (Tag S hy hvy) hes
        obtain⟨_,hk',⟨xs0,h30,_⟩,_⟩:=S.ob d' _ hd
        have hz:Nat.min ys.length len=min ys.length len:=rfl
        by_cases hn0:min ys.length len=0
        ·
         have hrun: (execOp a.eval o).run P w= .ok (.value (.int .i64 0)) w:=by
          have hf: (Builtin.firstCells k' 0 (.slice ady ys.length capy)).run P w= .ok #[] w:=by cases ady<;> simp[Builtin.firstCells,loadCells,loadCellsFrom]
          cases adx<;> simp[execOp,ho,resolve,invoke,builtin,hux,huy,Builtin.copy_,run_underlying ht,Builtin.lenOf,hz,hn0,Tao hk h0,hf,storeCells,goInt]
         have hl:l.take off++ys.take len++l.drop (off+min ys.length len)=l:=by
          have:ys.take len= []:=by
           apply List.eq_nil_of_length_eq_zero
           rw[List.length_take]; omega
          rw[this,hn0]; simp
         refine EffOK.mk' (g':= ⟨g.lm,g.v⟩) (h':=AM.put s.h d' (.row e k' false (l.take off++ys.take len++l.drop (off+min ys.length len)))) rfl hrun ?_ (by rw[hn0]; exact Rep.sc _)
         rw[hl]
         have:=S.cells1 (w':=w) (d:=d') (lm':=g.lm) hd (o':= .row e k' false l) ⟨rfl,rfl⟩ rfl rfl rfl (Ext.refl _ _) (Below.refl _ _) (fun b _ _=> ⟨rfl,rfl⟩) (S.ob d' _ hd)
         exact this
        · rcases hly with rfl | ⟨_,hyk,b2,of2,vs,rfl,hrl2,hm2,h12⟩
          · simp at hn0
          have hb:∃ b,blk (g.v d')=some b/\adx=some ⟨b,off*k',none⟩:=by
           simp only[SRep,hd]at hrx
           obtain⟨_,hr⟩:=hrx
           rcases hr with⟨rfl,rfl,hu'⟩ | ⟨_,ad',cap',hu',_,hz'⟩
           · rcases h30.2 with⟨hv0,h0'⟩ | ⟨b,cap'',cur,hv0,_⟩
             · omega
             · rw[hux,hv0]at hu'
               simp only[Value.slice.injEq]at hu'
               exact⟨b,by rw[hv0]; rfl,by rw[hu'.1]; simp⟩
           · rw[hux]at hu'
             simp only[Value.slice.injEq]at hu'
             rcases hz' with hz' | ⟨b,hb,e⟩
             · omega
             · exact⟨b,hb,by rw[hu'.1]; exact e⟩
          obtain⟨b,hb,rfl⟩:=hb
          obtain⟨cap,cur,xs,hv,hbase,hlc,hcm,hg,hcs,hxs,hrl,h1⟩:=Tsy S hd hb
          generalize hmn:min ys.length len=n at *
          have hvsl:vs.length=ys.length*k':=by rw[← hrl2.length,Tap hyk]
          have hnk:n*k'<=ys.length*k':=Nat.mul_le_mul_right _ (by omega)
          have hcl: (vs.take (n*k')).length=n*k':=by simp; omega
          have hon:off*k'+n*k'<=l.length*k':=by rw[← Nat.add_mul]; exact Nat.mul_le_mul_right _ (by omega)
          have hlcap:l.length*k'<=cap*k':=Nat.mul_le_mul_right _ hlc
          have h13:∀ u∈vs.take (n*k'),u.oneCell'=true:=fun u hu=>h12 u (List.mem_of_mem_take hu)
          have hst:=run_storeCells_at P b (off*k') e (vs.take (n*k')) 0 cur w hg (by rw[hcl]; omega) h13
          simp only[Nat.add_zero,hcl]at hst
          have hf:=run_firstCells_some (P:=P) w k' n ⟨b2,of2,none⟩ ys.length capy (vs.take (n*k')) hcl (fun j v hv=>by
           rw[add_n]
           rw[List.getElem?_take]at hv
           split at hv
           · exact hm2 j v hv
           · simp at hv)
          have hrun: (execOp a.eval o).run P w= .ok (.value (.int .i64 n)) (w.setRow b (cur.toList.take (off*k')++vs.take (n*k')++cur.toList.drop (off*k'+n*k')).toArray):=by
           have hz2:Nat.min ys.length len=n:=hmn
           simp[execOp,ho,resolve,invoke,builtin,hux,huy,Builtin.copy_,run_underlying ht,Builtin.lenOf,hz2,Tao hk h0,hf,hst,goInt]
          have hytk:ys.take len=ys.take n:=by
           rcases Nat.le_total ys.length len with h | h
           · rw[List.take_of_length_le h,List.take_of_length_le (by omega)]
           · congr 1; omega
          have hnl:∀ c'∈l.take off++ys.take len++l.drop (off+n),c'.length=k':=by
           intro c' hc'
           simp only[List.mem_append]at hc'
           rcases hc' with(h | h) | h
           · exact hk' _ (List.mem_of_mem_take h)
           · exact hyk _ (List.mem_of_mem_take h)
           · exact hk' _ (List.mem_of_mem_drop h)
          have hxl:xs.length=l.length*k':=by rw[← hrl.length,Tap hk']
          have hfl: (l.take off++ys.take len++l.drop (off+n)).flatten=l.flatten.take (off*k')++ys.flatten.take (n*k')++l.flatten.drop (off*k'+n*k'):=by
           rw[List.flatten_append,List.flatten_append,hytk,← Tbz off hk',← Tbz n hyk,← Tat (off+n) hk',Nat.add_mul]
          have hnew: ((cur.toList.take (off*k')++vs.take (n*k')++cur.toList.drop (off*k'+n*k')).toArray.toList.take (l.length*k'))=xs.take (off*k')++vs.take (n*k')++xs.drop (off*k'+n*k'):=by
           rw[← hxs]
           simp only[List.take_append,List.length_append,List.length_take,Array.length_toList,List.take_take,List.drop_take,hcl]
           congr 2
           · congr 1; omega
           · congr 1; omega
           · congr 1; omega
          obtain⟨S2,T2⟩:=S.setRow hd (l':=l.take off++ys.take len++l.drop (off+n)) (by simp; omega) hnl hv hbase hlc hcm hg (new:= (cur.toList.take (off*k')++vs.take (n*k')++cur.toList.drop (off*k'+n*k')).toArray) (by simp; omega)
           (xs:=xs.take (off*k')++vs.take (n*k')++xs.drop (off*k'+n*k')) (by rw[hfl]; exact((hrl.take _).append (hrl2.take _)).append (hrl.drop _)) hnew (by
            intro u hu
            simp only[List.mem_append]at hu
            rcases hu with(hu | hu) | hu
            · exact h1 u (List.mem_of_mem_take hu)
            · exact h13 u hu
            · exact h1 u (List.mem_of_mem_drop hu))
          exact EffOK.mk' rfl hrun S2 (Rep.sc _)
      | _=>rw[hd]at he; simp at he
   | _=>simp at he
theorem T0m (S:Sim base w0 lm0 N g a w s){t:TypeId}{x:Operand}{x':X}{call:Call}{d:Nat}{r:Eff}(ho:o.op= .range t x)(ht:P.underlying t=some .string)(hx:okX x x'=true)(he:eff call s d (.rng x')=some r):EffOK P base w0 lm0 N g a w s o r:=by
 simp only[eff]at he
 split at he
 · rename_i st hv
   cases hid:newId s.h d with
   | none=>rw[hid]at he; simp at he
   | some id =>
    rw[hid]at he
    simp only[oIE]at he
    subst he
    have hu:=Ta6 (ev_p S hx hv)
    have hlm:∀ b,b<w.heap.size->g.lm b=g.lm b:=fun _ _=>rfl
    obtain⟨S',T'⟩:=S.new (id:=id) (Tay hid) (Tbb hid) (Ta2 w (.stringIter st 0)) (lm':=g.lm) hlm (v0:= .pointer (some ⟨w.heap.size,0,none⟩)) (o:= .it st 0) rfl (fun b hb=>by simp[blk]at hb; omega) ⟨w.heap.size,Tai _ _ _,S.bw,heap_alloc_new w _⟩
    refine EffOK.mk' (u:= .pointer (some ⟨w.heap.size,0,none⟩)) rfl ?_ S' ?_
    · simp only[execOp,ho,hu,Sem.run_bind,run_range_string w t st ht,Result.andThen_ok,Sem.run_pure]
      rfl
    · simp only[SRep,putAll,Tac,Tai]
 · simp at he
theorem T0n (S:Sim base w0 lm0 N g a w s){x:Operand}{x':X}{call:Call}{d:Nat}{r:Eff}(ho:o.op= .next x true)(hx:okX x x'=true)(he:eff call s d (.nxt x')=some r):EffOK P base w0 lm0 N g a w s o r:=by
 simp only[eff]at he
 cases hv:x'.ev s with
 | none=>rw[hv]at he; simp at he
 | some v =>
  rw[hv]at he
  cases v with
  | mp d' i j =>
   dsimp only at he
   cases hd:get s.h d' with
   | none=>rw[hd]at he; simp at he
   | some ob =>
    cases ob<;> rw[hd]at he<;> first | (simp at he; done) | skip
    rename_i st pos
    dsimp only at he
    obtain⟨b,hb1,hb2,hb3⟩:=S.ob d' _ hd
    have hu:a.eval x= .pointer (some ⟨b,0,none⟩):=by
     have:=Tag S hx hv
     simp only[SRep,hd]at this
     rw[this,hb1]
    split at he
    · rename_i hlt
      simp only[oIE]at he
      subst he
      have hrun:=Lib.run_next_any_at (P:=P) w b st pos o.type hb3 hlt
      have hext:Ext w g.lm (w.iterAt b st (pos+ (Utf8.decode st pos).2)) g.lm:=by
       refine⟨fun b' of u hc hl=> ⟨?_,hl⟩,fun b' es clock hm h0=> ⟨(Lib.iterAt_other w b b' st _ (fun h=>by rw[h,hb3]at hm; simp at hm)).trans hm,h0⟩⟩
       have hne:b'≠b:=fun h=>by rw[h]at hc; simp[World.cell?,hb3]at hc
       exact(World.cell?_of_block (a:= ⟨b',of,none⟩) (Lib.iterAt_other w b b' st _ hne)).trans hc
      have S':=S.cells1 (d:=d') (lm':=g.lm) hd (o':= .it st (pos+ (Utf8.decode st pos).2)) trivial rfl rfl rfl hext (Lib.below_iterAt (Below.refl _ _) hb2 _ _)
       (fun b' hb' _=> ⟨Lib.iterAt_other _ _ _ _ _ (fun h=>hb' (by rw[hb1,h]; rfl)),rfl⟩) ⟨b,hb1,hb2,Lib.iterAt_heap w b st pos _ hb3⟩
      refine EffOK.mk' (g':= ⟨g.lm,g.v⟩) rfl ?_ S' (Rep.tu (vs:= [.bool true,.int .i64 pos,.int .i32 (Utf8.decode st pos).1]) (.cons (.sc _) (.cons (.sc _) (.cons (.sc _) .nil))))
      simp only[execOp,ho,hu,Sem.run_bind,hrun,Result.andThen_ok,Sem.run_pure]
    · rename_i hlt
      simp only[oIE]at he
      subst he
      have hrun:=Lib.run_next_end_at (P:=P) w b st pos o.type hb3 hlt
      refine EffOK.pure S (u:= .tuple #[.bool false]) ?_ (Rep.tu (vs:= [.bool false]) (.cons (.sc _) .nil))
      simp only[execOp,ho,hu,Sem.run_bind,hrun,Result.andThen_ok,Sem.run_pure]
  | _=>simp at he
end
end Go.Proofs.YtjpibniecllafaaGreat.AM
end
