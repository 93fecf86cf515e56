/- Made by pack.py: AM15, AM16, AMO, AM17, AM18. No condition but what each says. -/
import Derived.Test.YtjpibniecllafaaGreatC4
set_option linter.unusedSimpArgs false
set_option linter.unusedVariables false
set_option maxHeartbeats 16000000
section
namespace Go.Proofs.YtjpibniecllafaaGreat.AM
open Go Go.RowKit
def Callable (P : Program) (f : FuncId) : Prop := ∃ fn, P.funcs[f]? = some fn ∧ (fn.name == "runtime.NumGoroutine") = false ∧ fn.body.isNone = false
def RRep (base:Nat)(w:World)(lm:Nat->Nat):Ret->Value->Prop
 | .val x,u=>Rep w lm x u
 | .sb _ _ _,_=>False
 | .shr _ _,_=>False
 | .shn _ _,_=>False
 | .deep e k l,u=>∃ gv:Nat->Value,gv 0=u/\ORep w ⟨lm,gv⟩ base 0 (.dp e k l)/\∃ own:Nat->Nat,∀ x b,Ids 0 (.dp e k l) x->blk (gv x)=some b->own b=x
 | .own e k l,u=>0<k/\ (∀ c∈l,c.length=k)/\ (∃ xs,w.ownsRow base e k u l.length xs/\RepL w lm l.flatten xs/\∀ x∈xs,x.oneCell'=true)/\∀ b,blk u=some b->lm b=0
def CallOK' (P:Program)(f:FuncId)(args:List PV)(r:Ret):Prop :=
 ∀(w0:World) (lm0:Nat->Nat) (vs:List Value),RepL w0 lm0 args vs->Calls P f vs.toArray w0 fun e w'=>∃ u lm',e= .returned u/\Below w0.heap.size w0 w'/\ (∀ b,b<w0.heap.size->lm' b=lm0 b)/\RRep w0.heap.size w' lm' r u
def SbOK (P:Program)(k:Nat)(T e:TypeId)(f:FuncId):Prop:=if k=1 then SbWrite P T e f else if k=3 then SbRune P T e f else SbString P T e f
structure HSim (base:Nat) (w0:World) (lmf:Nat->Nat) (g:Gs) (w:World) (h:List (Nat×Ob)):Prop where
 bas:base=w0.heap.size
 below:Below base w0 w
 lm:∀ b,b<base->g.lm b=lmf b
 hs:HS base g w h
def SharedOK (P:Program)(f:FuncId)(args:List PV)(v:SV)(h':List (Nat×Ob)):Prop :=
 ∀ (vs:List SV) (h:List (Nat×Ob)),args= [.hp vs h]->∀(base:Nat) (w0:World) (lmf:Nat->Nat) (g:Gs) (w:World) (us:List Value),HSim base w0 lmf g w h->SRepL w g (get h) vs us->∀ K:Nat->Prop,(∀ b,K b->b<w.heap.size/\Free g (get h) b) ->
  Calls P f us.toArray w fun e w'=>∃ u g',e= .returned u/\HSim base w0 lmf g' w' h'/\SRep w' g' (get h') v u/\Ext w g.lm w' g'.lm/\w.heap.size<=w'.heap.size/\ (∀ b,K b->w'.heap[b]?=w.heap[b]?/\g'.lm b=g.lm b/\Free g' (get h') b) /\
   ∀ v1 u1,SRep w g (get h) v1 u1->SRep w' g' (get h') v1 u1
def SharedNew (P:Program)(f:FuncId)(args:List PV)(v:SV)(h':List (Nat×Ob)):Prop:=∀ vs h,args= [.hp vs h]->SharedOK P f args v (h++h')
def CallOK (P:Program)(f:FuncId)(args:List PV)(r:Ret):Prop:=match r with
 | .sb k T e=>SbOK P k T e f
 | .shr v h'=>SharedOK P (f-1000000) args v h'
 | .shn v h'=>SharedNew P (f-2000000) args v h'
 | r=>CallOK' P f args r
def Ret.pl:Ret->Bool
 | .shr _ _=>false
 | .shn _ _=>false
 | _=>true
theorem CallOK.plain {P:Program}{f:FuncId}{args:List PV}{r:Ret}(h:CallOK P f args r)(hr:∀ k T e,r≠ .sb k T e)(hr2:r.pl=true):CallOK' P f args r:=by
 cases r with
 | sb k T e=>exact absurd rfl (hr k T e)
 | shr v hh=>simp[Ret.pl]at hr2
 | shn v hh=>simp[Ret.pl]at hr2
 | val x=>exact h
 | own e k l=>exact h
 | deep e k l=>exact h
theorem CallOK.of {P:Program}{f:FuncId}{args:List PV}{r:Ret}(h:CallOK' P f args r)(hr:∀ k T e,r≠ .sb k T e)(hr2:r.pl=true):CallOK P f args r:=by
 cases r with
 | sb k T e=>exact absurd rfl (hr k T e)
 | shr v hh=>simp[Ret.pl]at hr2
 | shn v hh=>simp[Ret.pl]at hr2
 | val x=>exact h
 | own e k l=>exact h
 | deep e k l=>exact h
def realF (f:FuncId):Ret->FuncId
 | .shr _ _=>f-1000000
 | .shn _ _=>f-2000000
 | _=>f
def Good (P:Program)(call:Call):Prop:=∀ f args r,call f args=some r->CallOK P f args r/\Callable P (realF f r)
theorem Thf {f:FuncId}{r:Ret}(hr:r.pl=true):realF f r=f:=by
 cases r with
 | shr v hh=>simp[Ret.pl]at hr
 | shn v hh=>simp[Ret.pl]at hr
 | val x=>rfl
 | own e k l=>rfl
 | deep e k l=>rfl
 | sb k T e=>rfl
theorem Good.cal {P:Program}{call:Call}(hG:Good P call){f:FuncId}{args:List PV}{r:Ret}(hc:call f args=some r)(hr:r.pl=true):Callable P f:=by
 have:= (hG f args r hc).2
 rwa[Thf hr]at this
theorem Tfr {P:Program}{F:FuncId}{args:List PV}{v:SV}{h':List (Nat×Ob)}:CallOK P F args (.shr v h')=SharedOK P (F-1000000) args v h':=rfl
theorem Tfs {P:Program}{F:FuncId}{args:List PV}{v:SV}{h':List (Nat×Ob)}:CallOK P F args (.shn v h')=SharedNew P (F-2000000) args v h':=rfl
theorem Thg {F:FuncId}{v:SV}{h':List (Nat×Ob)}:realF F (.shr v h')=F-1000000:=rfl
theorem Thh {F:FuncId}{v:SV}{h':List (Nat×Ob)}:realF F (.shn v h')=F-2000000:=rfl
theorem Good.shr {P:Program}{call:Call}(hG:Good P call){f:FuncId}{args:List PV}{v:SV}{h':List (Nat×Ob)}(hc:call (f+1000000) args=some (.shr v h')):SharedOK P f args v h'/\Callable P f:=by
 have h:=hG _ _ _ hc
 rw[Tfr,Thg]at h
 have e:f+1000000-1000000=f:=Nat.add_sub_cancel f 1000000
 rw[e]at h
 exact h
theorem Good.shn {P:Program}{call:Call}(hG:Good P call){f:FuncId}{args:List PV}{v:SV}{h':List (Nat×Ob)}(hc:call (f+2000000) args=some (.shn v h')):SharedNew P f args v h'/\Callable P f:=by
 have h:=hG _ _ _ hc
 rw[Tfs,Thh]at h
 have e:f+2000000-2000000=f:=Nat.add_sub_cancel f 2000000
 rw[e]at h
 exact h
theorem Ten {d:Nat}:∀(h':List (Nat×Ob)) (h:List (Nat×Ob)),(∀ q∈h',q.1≠d)->get (putAll h h') d=get h d
 | [],h,_=>rfl
 | (e,o)::h',h,hh=>by
  rw[putAll,Ten h' _ (fun q hq=>hh q (by simp[hq])),Tae _ (hh (e,o) (by simp))]
theorem Tdx {d:Nat}:∀(h':List (Nat×Ob)) (h:List (Nat×Ob)),get h d≠none->get (putAll h h') d≠none
 | [],h,hh=>hh
 | (e,o)::h',h,hh=>by
  rw[putAll]
  refine Tdx h' _ ?_
  rw[Tbf]
  split
  · simp
  · exact hh
def methOk (P:Program)(t:TypeId)(m:String)(f:FuncId):Bool:=match P.info? t,P.underlying t with
 | some i,some u=> (match u with | .pointer _=>false | _=>true)&& (match i.methods.find? (·.name == m)with
  | some mm=>mm.path.isEmpty&& (match mm.func with | some (f',false)=>f' == f | _=>false)
  | none=>false)
 | _,_=>false
def okCall (P:Program)(op:Op)(ao:AOp):Bool:=match op with
 | .call c=> (match c.callee,ao with
  | .value (.func f),.cl f' ys=>f == f'&&okXs c.args.toList ys
  | .value (.func f),.cld f' ys=>f == f'&&okXs c.args.toList ys
  | .value (.func f),.inl f' ys=>f == f'&&okXs c.args.toList ys
  | .value (.func f),.inn f' ys=>f == f'&&okXs c.args.toList ys
  | .value (.func f),.inq f' ys=>f == f'&&okXs c.args.toList ys
  | .value (.func f),.sbw f' y1 y2=>f == f'&&okXs c.args.toList [y1,y2]
  | .value (.func f),.sbs f' y1=>f == f'&&okXs c.args.toList [y1]
  | .value x,.cvs y ys=>okX x y&&okXs c.args.toList ys
  | .value x,.cv y ys=>okX x y&&okXs c.args.toList ys
  | .invoke x m,.inv t f m' y ys=>m == m'&&okX x y&&okXs c.args.toList ys&&methOk P t m f
  | _,_=>false)
 | _=>false
section
variable {P:Program}{base:Nat}{w0:World}{lm0:L0}{N:Nat}{g:Gs}{a:Act}{w:World}{s:St}{o:Oper}
theorem Sim.calledOwn (S:Sim base w0 lm0 N g a w s){w':World}{lm':Nat->Nat}{u:Value}(hb:Below w.heap.size w w')(hl:∀ b,b<w.heap.size->lm' b=g.lm b){e k:Nat}{l:List (List PV)}(hr:RRep w.heap.size w' lm' (.own e k l) u){id:Nat}(hid:get s.h id=none)(hid2:id<1000000) :
 ∃ g',Sim base w0 lm0 N g' a w' ⟨s.t,AM.put s.h id (.row e k false l)⟩/\SRep w' g' (get (AM.put s.h id (.row e k false l))) (.ms id 0 l.length) u:=by
 obtain⟨q1,q2,⟨xs,q3,q4,q5⟩,q6⟩:=hr
 obtain⟨S',T'⟩:=S.new (id:=id) hid hid2 hb hl (hop:=rfl) (v0:=u) (o:= .row e k false l) (fun b hb'=>by
  rcases q3.2 with⟨hv,_⟩ | ⟨b',cap,cur,hv,h1,_⟩
  · rw[hv]at hb'; simp[blk]at hb'
  · rw[hv]at hb'; simp[blk]at hb'; omega)
  ⟨q1,q2,⟨xs,by
   simp only[Tai]
   refine⟨q3.1,?_⟩
   rcases q3.2 with h | ⟨b',cap,cur,hv,h1,h2⟩
   · exact .inl h
   · exact .inr ⟨b',cap,cur,hv,Nat.le_trans S.bw h1,h2⟩,q4,q5⟩,fun b hb'=>by simp only[Tai]at hb'; simpa using q6 b hb'⟩
 refine⟨⟨lm',upd g.v id u⟩,S',?_⟩
 have:=Tbh (w':=w') (g':= ⟨lm',upd g.v id u⟩) (h':=AM.put s.h id (.row e k false l)) (Tac _ _ _) (n:=l.length) rfl
 simp only[Tai]at this
 exact this
theorem Sim.called (S:Sim base w0 lm0 N g a w s){w':World}{lm':Nat->Nat}{u:Value}{r:Ret}(hb:Below w.heap.size w w')(hl:∀ b,b<w.heap.size->lm' b=g.lm b)(hr:RRep w.heap.size w' lm' r u){h0 fr:List (Nat×Ob)}{d:Nat}{e:Eff}(hf:∀ d,Fz (get h0 d) (get s.h d))(he:ret1 h0 fr d r=some e)(hs:s.h=putAll h0 fr) :
 ∃ g',Sim base w0 lm0 N g' a w' ⟨s.t,putAll h0 e.hs⟩/\SRep w' g' (get (putAll h0 e.hs)) e.v u:=by
 have hext:=Ext.of_below hb hl
 cases r with
 | val x =>
  simp only[ret1,oIE]at he
  subst he
  refine⟨⟨lm',g.v⟩,?_,hr⟩
  have:=S.turn (w':=w') (g':= ⟨lm',g.v⟩) (h':=s.h) ⟨hext,fun d o h=> .inr ⟨rfl,o,h,Shp.refl _⟩⟩ (hb.mono S.bw) (fun b h=>hl b (Nat.lt_of_lt_of_le h S.bw)) (fun d1 o1 h1=> (S.ob d1 o1 h1).keep (fun _ _=>rfl) hext fun hlv x hi b hbk=>by
   have:= ((S.ob d1 o1 h1).blockI hlv hi hbk).2
   exact⟨hb.block b this,hl b this⟩) S.lt S.ap (fun d e k l h1=> .inl ⟨h1,rfl,fun b hbk=>hb.block b ((S.ob d _ h1).block rfl hbk).2⟩) (fun b _ hbz hF=> ⟨⟨hb.block b hbz,hl b hbz⟩,hF⟩)
  rw[hs]at this
  exact this
 | own e' k l =>
  simp only[ret1]at he
  cases hid:newId h0 d with
  | none=>rw[hid]at he; simp at he
  | some id =>
   rw[hid]at he
   simp only[oIE]at he
   subst he
   obtain⟨g',S',R'⟩:=S.calledOwn hb hl hr (Te5 hf hid) (Tbb hid)
   exact⟨g',by rw[Tak,← hs]; exact S',by rw[Tak,← hs]; exact R'⟩
 | deep e' k l =>
  simp only[ret1]at he
  split at he
  · rename_i hok
    cases hid:newId h0 d with
    | none=>rw[hid]at he; simp at he
    | some id =>
     rw[hid]at he
     simp only[oIE]at he
     subst he
     obtain⟨gv,rfl,q1,q2⟩:=hr
     obtain⟨lm2,X2,L2,O2⟩:=Tla q1 hok (by omega) q2
     have hl2:∀ b,b<w.heap.size->lm2 b=g.lm b:=fun b hb'=>by
      refine(L2 b fun x hx hbx=> ?_).trans (hl b hb')
      have:= (q1.blockI rfl hx hbx).1
      omega
     obtain⟨g',S',R'⟩:=S.calledOwn (lm':=lm2) hb hl2 (e:=e') (k:=k) (l:=setL l) ⟨O2.1,O2.2.1,O2.2.2.1,fun b hb'=>by simpa using O2.2.2.2 b hb'⟩ (Te5 hf hid) (Tbb hid)
     have hlen: (setL l).length=l.length:=by simp[setL]
     rw[hlen]at R'
     exact⟨g',by rw[Tak,← hs]; exact S',by rw[Tak,← hs]; exact R'⟩
  · simp at he
 | sb k T e1=>simp[ret1]at he
 | shr v hh=>simp[ret1]at he
 | shn v hh=>simp[ret1]at he
theorem Sim.calledD (S:Sim base w0 lm0 N g a w s){w':World}{lm':Nat->Nat}{u:Value}{r:Ret}(hb:Below w.heap.size w w')(hl:∀ b,b<w.heap.size->lm' b=g.lm b)(hr:RRep w.heap.size w' lm' r u){h0 fr:List (Nat×Ob)}{d:Nat}{e:Eff}(hf:∀ d,Fz (get h0 d) (get s.h d))(he:ret1d h0 fr d r=some e)(hs:s.h=putAll h0 fr) :
 ∃ g',Sim base w0 lm0 N g' a w' ⟨s.t,putAll h0 e.hs⟩/\SRep w' g' (get (putAll h0 e.hs)) e.v u:=by
 cases r with
 | val x=>simp[ret1d]at he
 | own e' k l=>simp[ret1d]at he
 | sb k T e1=>simp[ret1d]at he
 | shr v hh=>simp[ret1d]at he
 | shn v hh=>simp[ret1d]at he
 | deep e' k l =>
  simp only[ret1d]at he
  cases hid:newId h0 d with
  | none=>rw[hid]at he; simp at he
  | some id =>
   rw[hid]at he
   simp only[oIE]at he
   subst he
   obtain⟨gv,rfl,q1,own,q2⟩:=hr
   have hid2:=Tbb hid
   let v':Nat->Value:=fun x=>if x % 1000000=id then gv (x-id)else g.v x
   have e0:v' id=gv 0:=by
    show(if id % 1000000=id then gv (id-id)else g.v id)=gv 0
    rw[if_pos (by omega),Nat.sub_self]
   have ep:∀ p,v' (nid id p)=gv (nid 0 p):=fun p=>by
    show(if nid id p % 1000000=id then gv (nid id p-id)else g.v (nid id p))=gv (nid 0 p)
    have h1:nid id p % 1000000=id:=by unfold nid; omega
    rw[if_pos h1]
    congr 1
    unfold nid; omega
   have back:∀ {x},Ids id (.dp e' k l) x->Ids 0 (.dp e' k l) (x-id)/\v' x=gv (x-id)/\id<=x:=by
    intro x hi
    rcases hi.dpE with rfl | ⟨p,e1,k1,l1,hp,hk,rfl⟩
    · exact⟨.inl (by omega),by rw[e0,Nat.sub_self],Nat.le_refl _⟩
    · have e2:nid id p-id=nid 0 p:=by unfold nid; omega
      exact⟨by rw[e2]; exact .dp hp hk,by rw[ep,e2],by unfold nid; omega⟩
   obtain⟨S',T'⟩:=S.newG (id:=id) (Te5 hf hid) hid2 (w':=w') (lm':=lm') (v':=v') (o:= .dp e' k l) hb hl (fun x hx=>if_neg hx)
    (fun x b hi hbx=>by
     obtain⟨h1,h2,_⟩:=back hi
     rw[h2]at hbx
     exact(q1.blockI rfl h1 hbx).1)
    ⟨fun b=>own b+id,fun x b hi hbx=>by
     obtain⟨h1,h2,h3⟩:=back hi
     rw[h2]at hbx
     have:=q2 _ b h1 hbx
     show own b+id=x
     omega⟩
    (Tjy q1 S.bw e0 ep)
   refine⟨⟨lm',v'⟩,?_,?_⟩
   · rw[Tak,← hs]; exact S'
   · rw[Tak,← hs]
     show SRep w' ⟨lm',v'⟩ (get (AM.put s.h id (.dp e' k l))) (.ms id 0 l.length) (gv 0)
     simp only[SRep,Tac]
     exact⟨by omega,.inl ⟨trivial,trivial,e0.symm⟩⟩
theorem Ta3 {f:FuncId}(h:Callable P f)(args:Array Value)(w:World): (callFunc f args).run P w= .ok (.enter f args) w:=by
 obtain⟨fn,h1,h2,h3⟩:=h
 have h2' : ¬ fn.name = "runtime.NumGoroutine" := by simpa using h2
 have h3':¬ fn.body=none:=by intro h; rw[h]at h3; simp at h3
 simp[callFunc,h1,h2',h3']
theorem Tqp {t:TypeId}{m:String}{f:FuncId}(h:methOk P t m f=true)(n:Nat)(v:Value)(w:World): (method (n+1) t v m).run P w= .ok (f,v) w:=by
 unfold methOk at h
 split at h
 · rename_i i u hi hu
   simp only[Bool.and_eq_true]at h
   obtain⟨h1,h2⟩:=h
   split at h2
   · rename_i mm hm
     simp only[Bool.and_eq_true]at h2
     obtain⟨h3,h4⟩:=h2
     split at h4
     · rename_i f' hf
       simp at h4
       subst h4
       have hp:mm.path= #[]:=by simpa using h3
       have hinf: (typeInfo t).run P w= .ok i w:=by simp[typeInfo,hi]
       simp only[method,Sem.run_bind,hinf,Result.andThen_ok,hm,hp,hf]
       cases u<;> first | (simp at h1; done) | simp[follow,receiverAt,run_underlying hu,Place.get]
     · simp at h4
   · simp at h2
 · simp at h
theorem Thi {lm:Nat->Nat}:∀ {l:List (List PV)} {bl:List UInt8} {xs:List Value},sbBytes l=some bl->RepL w lm l.flatten xs->xs=bl.map (fun c=>Value.int .u8 c.toNat)/\l.length=bl.length
 | [],bl,xs,h,hr=>by
  simp only[sbBytes,oIE]at h
  subst h
  cases hr
  exact⟨rfl,rfl⟩
 | y ::ys,bl,xs,h,hr=>by
  unfold sbBytes at h
  split at h
  · simp_all
  · rename_i n l heq
    simp only[List.cons.injEq]at heq
    obtain⟨rfl,rfl⟩:=heq
    split at h
    case isFalse=>simp at h
    rename_i hn
    cases hb:sbBytes ys with
    | none=>rw[hb]at h; simp at h
    | some b =>
     rw[hb]at h
     simp only[Option.map_some,oIE]at h
     subst h
     rw[List.flatten_cons]at hr
     cases hr with
     | cons h1 h2 =>
      rename_i v vs
      obtain⟨rfl,h4⟩:=Thi hb h2
      have e: ((UInt8.ofNat n.toNat).toNat:Int)=n:=by
       rw[UInt8.toNat_ofNat']
       omega
      refine⟨?_,by simp[h4]⟩
      rw[Ta6 h1,List.map_cons,e]
  · simp at h
theorem SRepL.append {w:World}{g:Gs}{h:Nat->Option Ob}:∀ {l:List SV} {us:List Value},SRepL w g h l us->∀ {m vs},SRepL w g h m vs->SRepL w g h (l++m) (us++vs)
 | _,_,.nil,_,_,q=>q
 | _,_,.cons a b,_,_,q=> .cons a (SRepL.append b q)
theorem QRepL.srepl {w:World}{g:Gs}{h:Nat->Option Ob}:∀ {l:List RV} {us:List Value},QRepL w g h l us->SRepL w g h (l.map RV.sv) us
 | _,_,.nil=> .nil
 | _,_,.cons a b=> .cons (QRep.sv.1 a) (QRepL.srepl b)
theorem RepL.srepl {w:World}{g:Gs}{h:Nat->Option Ob}:∀ {l:List PV} {us:List Value},RepL w g.lm l us->SRepL w g h (l.map SV.p) us
 | _,_,.nil=> .nil
 | _,_,.cons a b=> .cons a (RepL.srepl b)
open Classical in
theorem Sim.shared (S:Sim base w0 lm0 N g a w s) {f:FuncId} {vs:List SV} {us:List Value} {R fr:List Nat} {v:SV} {h':List (Nat×Ob)} {m n0:Nat} (hR:reach s.h m (vs.flatMap SV.refs) []=some R) (hRl:R.length<=1000000) (hr:SRepL w g (get s.h) vs us) (hok:SharedOK P f [.hp (vs.map (·.mapr (pos R))) (subH s.h (pos R) R 0)] v h')
 (hlen:R.length<=h'.length) (hk:okK h' 0=true) (hvr:∀ i,v.ref i=true->i<h'.length) (hfr:freshs s.h (h'.length-R.length) n0=some fr) (hn0:n0+ (h'.length-R.length)<=100000) :
 Calls P f us.toArray w fun en w'=>∃ u g',en= .returned u/\Sim base w0 lm0 N g' a w' ⟨s.t,putAll s.h (h'.map fun q=> (at0 (R++fr) q.1,q.2.mapr (at0 (R++fr))))⟩/\SRep w' g' (get (putAll s.h (h'.map fun q=> (at0 (R++fr) q.1,q.2.mapr (at0 (R++fr)))))) (v.mapr (at0 (R++fr))) u:=by
 obtain⟨hRn,hRt,hRx,hRc⟩:=Tbv hR
 obtain⟨f1,f2,f3⟩:=Tfa hfr hn0
 have ren:=Ts8 hRn hRx hRc hRl
 have renin:=fun e (he:e∈R)=>Ti2 (h:=s.h) (R:=R) hRx he
 have hBn: (R++fr).Nodup:=by
  rw[List.nodup_append]
  refine⟨hRn,f2,fun x hx y hy e=> ?_⟩
  subst e
  obtain⟨o1,q1,_⟩:=hRx x hx
  rw[(f3 x hy).1]at q1
  simp at q1
 have hBl: (R++fr).length=h'.length:=by rw[List.length_append,f1]; omega
 have hB9:∀ x∈R++fr,x<1000000/\get s.h x≠some (.pin ((lm0.pl).getD []))/\ (x=999999->False∨∀ l,get s.h 999999≠some (.pin l)):=fun x hx=>by
  rcases List.mem_append.1 hx with hx | hx
  · obtain⟨o1,q1,q2⟩:=hRx x hx
    refine⟨S.lt _ _ q1,?_,fun e=> .inr fun l hl=> ?_⟩
    · rw[q1]; rintro h; rw[oIj h]at q2; simp[Ob.noPin]at q2
    · rw[← e,q1]at hl; rw[oIj hl]at q2; simp[Ob.noPin]at q2
  · obtain⟨q1,q2,_⟩:=f3 x hx
    exact⟨by omega,by rw[q1]; simp,fun e=>by omega⟩
 have hBlt:∀ x∈R++fr,x<1000000:=fun x hx=> (hB9 x hx).1
 have hget0:∀ i,i<h'.length->∃ o,get h' i=some o:=fun i hi=>by
  cases hg:get h' i with
  | none=>exact absurd hg ((Tcn hk i).2 (by omega))
  | some o=>exact⟨o,rfl⟩
 have hlt0:∀ i o,get h' i=some o->i<h'.length:=fun i o hi=>by
  have:= (Tcn hk i).1 (by rw[hi]; simp)
  omega
 have hin:∀ i o,get h' i=some o->get (putAll s.h (h'.map fun q=> (at0 (R++fr) q.1,q.2.mapr (at0 (R++fr))))) (at0 (R++fr) i)=some (o.mapr (at0 (R++fr))):=fun i o hi=>by
  refine Ti3 (f:=at0 (R++fr)) (F:=fun o=>o.mapr (at0 (R++fr))) hi rfl (fun q hq he=> ?_) ?_
  · have h1:=Tfq hk q hq
    rw[← Tb6 hBn (i:=q.1) (by omega),he,Tb6 hBn (by have:=hlt0 i o hi; omega)]
  · rw[Te9 hk]; exact List.nodup_range' ..
 have hout:∀ x,x∉R++fr->get (putAll s.h (h'.map fun q=> (at0 (R++fr) q.1,q.2.mapr (at0 (R++fr))))) x=get s.h x:=fun x hx=>by
  refine Ten _ _ fun q hq=> ?_
  obtain⟨q',hq',rfl⟩:=List.mem_map.1 hq
  rintro rfl
  exact hx (Ta7 (by have:=Tfq hk q' hq'; omega))
 generalize hH2:putAll s.h (h'.map fun q=> (at0 (R++fr) q.1,q.2.mapr (at0 (R++fr))))=H2 at hin hout ⊢
 have hs1:HSim base w0 lm0.f ⟨g.lm,fun x=>g.v (lift (at0 R) x)⟩ w (subH s.h (pos R) R 0):= ⟨S.bas,S.below,S.lm,S.hs.ren ren⟩
 have hr1:SRepL w ⟨g.lm,fun x=>g.v (lift (at0 R) x)⟩ (get (subH s.h (pos R) R 0)) (vs.map (·.mapr (pos R))) us:=by
  have:∀(l:List SV) (us:List Value),SRepL w g (get s.h) l us-> (∀ v∈l,∀ e∈v.refs,e∈R)->SRepL w ⟨g.lm,fun x=>g.v (lift (at0 R) x)⟩ (get (subH s.h (pos R) R 0)) (l.map (·.mapr (pos R))) us:=by
   intro l us hq
   induction hq with
   | nil=>intro _; exact .nil
   | cons a b ih=>intro hh; exact .cons (ren.srep (fun e he=>renin e (hh _ (by simp) e (SV.mem_refs.2 he))) a) (ih fun v hv=>hh v (by simp[hv]))
  exact this vs us hr fun v hv e he=>hRt e (List.mem_flatMap.2 ⟨v,hv,he⟩)
 let K:Nat->Prop:=fun b=>b<w.heap.size/\ ((∃ d o x,get s.h d=some o/\o.live=true/\d∉R/\Ids d o x/\blk (g.v x)=some b)∨lm0.K b)
 have hK:∀ b,K b->b<w.heap.size/\Free ⟨g.lm,fun x=>g.v (lift (at0 R) x)⟩ (get (subH s.h (pos R) R 0)) b:=by
  rintro b ⟨hb,hb2⟩
  refine⟨hb,?_⟩
  rcases hb2 with⟨d,o,x,q1,q2,q3,q4,q5⟩ | hb2
  · intro i o' y z1 z2 z3 z4
    obtain⟨a1,o1,a2,rfl⟩:=ren.to i o' z1
    rw[Ob.mapr_live]at z2
    obtain⟨own,hap⟩:=S.ap
    have e1:=hap _ _ _ b a2 z2 (z3.ren a1) z4
    have e2:=hap _ _ _ b q1 q2 q4 q5
    have m1:= (z3.ren (f:=pos R) (k:=at0 R) a1).mod (S.lt _ _ a2)
    have m2:=q4.mod (S.lt _ _ q1)
    have hi:i<R.length:=by
     have:= (Tj3 (h:=s.h) (f:=pos R) (R:=R) (i0:=0) fun d hd=>by obtain⟨o,q,_⟩:=hRx d hd; rw[q]; simp)
     have h3:=Tcx (f:=pos R) (i0:=0) (R:=R) (h:=s.h) (fun d hd=>by obtain⟨o,q,_⟩:=hRx d hd; rw[q]; simp) i
     rw[z1]at h3
     split at h3
     · omega
     · simp at h3
    rw[← e1,e2,m2]at m1
    exact q3 (by rw[m1]; exact Ta7 hi)
  · exact ren.free (S.fr.kd b hb2)
 refine(hok _ _ rfl base w0 lm0.f _ w us hs1 hr1 K hK).mono ?_
 rintro en w' ⟨u,g',rfl,H',R',X',Z',F',O'⟩
 replace X':Ext w g.lm w' g'.lm:=X'
 replace F':∀ b,K b->w'.heap[b]?=w.heap[b]?/\g'.lm b=g.lm b/\Free g' (get h') b:=F'
 let v2:Nat->Value:=fun x=>if x % 1000000∈R++fr then g'.v (x-x % 1000000+pos (R++fr) (x % 1000000))else g.v x
 have v2in:∀ i,i<h'.length->v2 (at0 (R++fr) i)=g'.v i:=fun i hi=>by
  have hm:=Ta7 (R:=R++fr) (i:=i) (by omega)
  have hlt:=hBlt _ hm
  show(if _ then _ else _)=_
  rw[Nat.mod_eq_of_lt hlt,if_pos hm,Tb6 hBn (by omega),Nat.sub_self,Nat.zero_add]
 have v2nid:∀ i p,i<h'.length->v2 (nid (at0 (R++fr) i) p)=g'.v (nid i p):=fun i p hi=>by
  have hm:=Ta7 (R:=R++fr) (i:=i) (by omega)
  have hlt:=hBlt _ hm
  have e1:nid (at0 (R++fr) i) p % 1000000=at0 (R++fr) i:=by unfold nid; omega
  show(if _ then _ else _)=_
  rw[e1,if_pos hm,Tb6 hBn (by omega)]
  congr 1
  unfold nid; omega
 have v2out:∀ x,x % 1000000∉R++fr->v2 x=g.v x:=fun x hx=>if_neg hx
 have hRB:∀ {d},get s.h d≠none-> (d∈R++fr↔d∈R):=fun {d} hd=>by
  constructor
  · intro h
    rcases List.mem_append.1 h with h | h
    · exact h
    · exact absurd (f3 d h).1 hd
  · exact fun h=>List.mem_append.2 (.inl h)
 have hback:∀ d∈R,at0 (R++fr) (pos R d)=d:=fun d hd=>by
  obtain⟨q1,q2⟩:=Tep hd
  rw[Te7 q1,q2]
 have hshp:∀ e,e<h'.length->∀ o,get h' e=some o->∃ o',get H2 (at0 (R++fr) e)=some o'/\Shp o o'/\ (⟨g'.lm,v2⟩:Gs).v (at0 (R++fr) e)=g'.v e:=fun e he o ho=> ⟨_,hin e o ho,Shp.mapr _,v2in e he⟩
 have qmove:∀ r z,QRep w g (get s.h) r z->QRep w' ⟨g'.lm,v2⟩ (get H2) r z:=by
  intro r z hq
  cases hid:r.id? with
  | none =>
   cases r<;> simp[RV.id?]at hid
   exact Rep.ext X' hq
  | some d =>
   obtain⟨o,ho,_⟩:=SRep.there (v:=r.sv) (QRep.sv.1 hq) (e:=d) (by cases r<;> simp[RV.id?,RV.sv,SV.ref]at hid ⊢<;> exact hid)
   by_cases hd:d∈R
   · have h1:QRep w ⟨g.lm,fun x=>g.v (lift (at0 R) x)⟩ (get (subH s.h (pos R) R 0)) (r.mapr (pos R)) z:=QRep.mapr (g:=g) (g':= ⟨g.lm,fun x=>g.v (lift (at0 R) x)⟩) (Ext.refl w g.lm) (fun e he o ho=>by
      rw[hid]at he
      obtain rfl:=oIj he
      exact ren.shp (g:=g) (renin d hd) ho) hq
     have h2:QRep w' g' (get h') (r.mapr (pos R)) z:=QRep.sv.2 (O' _ _ (QRep.sv.1 h1))
     have h3:QRep w' ⟨g'.lm,v2⟩ (get H2) ((r.mapr (pos R)).mapr (at0 (R++fr))) z:=QRep.mapr (g:=g') (g':= ⟨g'.lm,v2⟩) (Ext.refl w' g'.lm) (fun e he o ho=>hshp e (hlt0 e o ho) o ho) h2
     rw[RV.mapr_mapr,RV.mapr_id fun e he=>by
      rw[hid]at he
      obtain rfl:=oIj he
      exact hback d hd]at h3
     exact h3
   · have h3:QRep w' ⟨g'.lm,v2⟩ (get H2) (r.mapr id) z:=QRep.mapr (g:=g) (g':= ⟨g'.lm,v2⟩) X' (fun e he o ho=>by
      rw[hid]at he
      obtain rfl:=oIj he
      have hB:d∉R++fr:=fun h=>hd ((hRB (by rw[ho]; simp)).1 h)
      exact⟨o,by show get H2 d=_; rw[hout d hB]; exact ho,Shp.refl o,v2out d (by rw[Nat.mod_eq_of_lt (S.lt _ _ ho)]; exact hB)⟩) hq
     rwa[RV.mapr_id (f:=id) fun e he=>rfl]at h3
 have smove:∀ z y,SRep w g (get s.h) z y->SRep w' ⟨g'.lm,v2⟩ (get H2) z y:=fun z y hz=>by
  have:=SRep.mono (f:=id) (g:=g) (g':= ⟨g'.lm,v2⟩) (h':=get H2) X' (fun r u _ hq=>by rw[RV.mapr_id (f:=id) fun e he=>rfl]; exact qmove r u hq) hz
  rwa[SV.mapr_id (f:=id) fun e he=>rfl]at this
 have hcase:∀ x o,get H2 x=some o-> (∃ i o',i<h'.length/\get h' i=some o'/\x=at0 (R++fr) i/\o=o'.mapr (at0 (R++fr)))∨ (x∉R++fr/\get s.h x=some o):=fun x o hx=>by
  by_cases hm:x∈R++fr
  · obtain⟨q1,q2⟩:=Tep hm
    obtain⟨o',ho'⟩:=hget0 (pos (R++fr) x) (by omega)
    have:=hin _ _ ho'
    rw[q2,hx]at this
    exact .inl ⟨_,o',by omega,ho',q2.symm,oIj this⟩
  · rw[hout x hm]at hx
    exact .inr ⟨hm,hx⟩
 have hfrn:∀ x o,x∉R++fr->get s.h x=some o-> (∀ y,Ids x o y->v2 y=g.v y)/\ (o.live=true->∀ y,Ids x o y->∀ b,blk (g.v y)=some b->K b):=fun x o hx ho=>by
  refine⟨fun y hy=>v2out y (by rw[hy.mod (S.lt _ _ ho)]; exact hx),fun hl y hy b hb=> ⟨((S.ob x o ho).blockI hl hy hb).2,.inl ⟨x,o,y,ho,hl,fun h=>hx (List.mem_append.2 (.inl h)),hy,hb⟩⟩⟩
 refine⟨u,⟨g'.lm,v2⟩,rfl,⟨H'.bas,S.size,S.defers,H'.below,H'.lm,fun n z hn=> ?_,fun x o hx=> ?_,fun x o hx=> ?_,?_,fun x e k l xs hx hw=> ?_,fun z y hz=>smove z y (S.ov z y hz),S.pn,fun l hl=> ?_,?_⟩,?_⟩
 · obtain⟨y,h1,h2⟩:=S.tm n z hn
   exact⟨y,h1,smove z y h2⟩
 · rcases hcase x o hx with⟨i,o',hi,ho',rfl,rfl⟩ | ⟨hm,ho⟩
   · exact(H'.hs.ob i o' ho').move _ rfl (v2in i hi) fun p=>v2nid i p hi
   · obtain⟨q1,q2⟩:=hfrn x o hm ho
     exact(S.ob x o ho).keep q1 X' fun hl y hy b hb=>let⟨z1,z2,_⟩:=F' b (q2 hl y hy b hb); ⟨z1,z2⟩
 · rcases hcase x o hx with⟨i,o',hi,ho',rfl,rfl⟩ | ⟨hm,ho⟩
   · exact hBlt _ (Ta7 (by omega))
   · exact S.lt _ _ ho
 · obtain⟨own,hap⟩:=S.ap
   obtain⟨own',hap'⟩:=H'.hs.ap
   refine⟨fun b=>if K b then own b else lift (at0 (R++fr)) (own' b),fun x o y b hx hl hi hb=> ?_⟩
   dsimp only
   rcases hcase x o hx with⟨i,o',hi',ho',rfl,rfl⟩ | ⟨hm,ho⟩
   · rw[Ob.mapr_live]at hl
     have hmx:=hBlt _ (Ta7 (R:=R++fr) (i:=i) (by omega))
     have hi2:i<1000000:=H'.hs.lt i o' ho'
     have hri:Ids i o' (lift (fun _=>i) y):=hi.ren (k:=fun _=>i) hmx
     have hmod:=hi.mod hmx
     have e3:v2 y=g'.v (lift (fun _=>i) y):=by
      have hm:=Ta7 (R:=R++fr) (i:=i) (by omega)
      show(if _ then _ else _)=_
      rw[hmod,if_pos hm,Tb6 hBn (by omega)]
      simp only[lift]
      congr 1
      omega
     dsimp only at hb
     rw[e3]at hb
     rw[if_neg fun hKb=> (F' b hKb).2.2 i o' _ ho' hl hri hb,hap' i o' _ b ho' hl hri hb]
     simp only[lift]
     have: (y / 1000000*1000000+i) % 1000000=i:=by omega
     rw[this]
     omega
   · obtain⟨q1,q2⟩:=hfrn x o hm ho
     dsimp only at hb
     rw[q1 y hi]at hb
     rw[if_pos (q2 hl y hi b hb)]
     exact hap x o y b ho hl hi hb
 · rcases hcase x _ hx with⟨i,o',hi,ho',rfl,ho⟩ | ⟨hm,ho⟩
   · cases o'<;> simp only[Ob.mapr]at ho<;> first | (simp at ho; done) | skip
     rename_i e1 k1 l1
     simp only[Ob.gr.injEq]at ho
     obtain⟨rfl,rfl,rfl⟩:=ho
     dsimp only at hw
     rw[v2in i hi,List.length_map]at hw
     rw[Tco]
     exact(H'.hs.gs i _ _ _ xs ho' hw).mono fun r hr z hz=>QRep.mapr (g:=g') (g':= ⟨g'.lm,v2⟩) (Ext.refl w' g'.lm) (fun e he o ho=>hshp e (hlt0 e o ho) o ho) hz
   · obtain⟨q1,q2⟩:=hfrn x _ hm ho
     dsimp only at hw
     rw[q1 x (.self _ _)]at hw
     have hw2:w.ownsRow base e k (g.v x) l.length xs:=Tav hw fun b hb=> (F' b (q2 rfl x (.self _ _) b hb)).1.symm
     have:= (S.gs x e k l xs ho hw2).mono (F:=fun r=>r) fun r _ z hz=>qmove r z hz
     rwa[List.map_id']at this
 · have h9: (999999:Nat)∉R++fr:=fun h=>by
    rcases(hB9 _ h).2.2 rfl with h | h
    · exact h.elim
    · exact h l (S.px l hl).1
   refine⟨by rw[hout _ h9]; exact(S.px l hl).1,fun d hd=> ((S.px l hl).2 d hd).imp id fun h=> ?_⟩
   rw[← hH2]
   exact Tdx _ _ h
 · refine⟨S.fr.ex.trans X',Nat.le_trans S.fr.sz Z',fun b hb=> ?_,fun b hb x o y hx hl hi hbk=> ?_⟩
   · have hKb:K b:= ⟨Nat.lt_of_lt_of_le hb.2 S.fr.sz,.inr hb⟩
     obtain⟨z1,z2,_⟩:=F' b hKb
     obtain⟨z3,z4⟩:=S.fr.kf b hb
     exact⟨z1.trans z3,z2.trans z4⟩
   · have hKb:K b:= ⟨Nat.lt_of_lt_of_le hb.2 S.fr.sz,.inr hb⟩
     rcases hcase x o hx with⟨i,o',hi',ho',rfl,rfl⟩ | ⟨hm,ho⟩
     · rw[Ob.mapr_live]at hl
       have hmx:=hBlt _ (Ta7 (R:=R++fr) (i:=i) (by omega))
       have hri:Ids i o' (lift (fun _=>i) y):=hi.ren (k:=fun _=>i) hmx
       have hmod:=hi.mod hmx
       have e3:v2 y=g'.v (lift (fun _=>i) y):=by
        have hm:=Ta7 (R:=R++fr) (i:=i) (by omega)
        show(if _ then _ else _)=_
        rw[hmod,if_pos hm,Tb6 hBn (by omega)]
        simp only[lift]
        congr 1
        omega
       dsimp only at hbk
       rw[e3]at hbk
       exact(F' b hKb).2.2 i o' _ ho' hl hri hbk
     · obtain⟨q1,q2⟩:=hfrn x o hm ho
       dsimp only at hbk
       rw[q1 y hi]at hbk
       exact S.fr.kd b hb x o y ho hl hi hbk
 · exact SRep.mapr (g:=g') (g':= ⟨g'.lm,v2⟩) (Ext.refl w' g'.lm) (fun e he o ho=>hshp e (hlt0 e o ho) o ho) R'
theorem Tfb (h:List (Nat×Ob))(R:List Nat)(d:Nat)(v:SV)(h':List (Nat×Ob)):shrE h R d (.shr v h')=if R.length<=h'.length/\2000+50*d+ (h'.length-R.length)<=100000/\okK h' 0=true/\ (v.refs.all fun i=>decide (i<h'.length))=true/\closeB h' h'.length=true then
      match freshs h (h'.length-R.length) (2000+50*d)with
      | some fr=>some ⟨v.mapr (at0 (R++fr)),h'.map fun q=> (at0 (R++fr) q.1,q.2.mapr (at0 (R++fr)))⟩
      | none=>none
    else none:=rfl
theorem Tdl (h:List (Nat×Ob))(R:List Nat)(d:Nat)(v:SV)(h':List (Nat×Ob)):shnE h R d (.shn v h')=if 2000+50*d+h'.length<=100000/\okK h' R.length=true/\ (v.refs.all fun i=>decide (i<R.length+h'.length))=true/\closeB h' (R.length+h'.length)=true then
      match freshs h h'.length (2000+50*d)with
      | some fr=>some ⟨v.mapr (at0 (R++fr)),h'.map fun q=> (at0 (R++fr) q.1,q.2.mapr (at0 (R++fr)))⟩
      | none=>none
    else none:=rfl
theorem Sim.inl (S:Sim base w0 lm0 N g a w s){call:Call}(hG:Good P call){f:FuncId}{vs:List SV}{us:List Value}{d:Nat}{e:Eff}(hr:SRepL w g (get s.h) vs us)(he:inlE call s d f vs=some e){K:Act->World->Prop}{Q:Exit->Act->World->Prop}
 (hK:∀ g' w' u,Sim base w0 lm0 N g' a w' ⟨s.t,putAll s.h e.hs⟩->SRep w' g' (get (putAll s.h e.hs)) e.v u->K (a.put o.dst u) w') (hrun:Callable P f-> (execOp a.eval o).run P w= .ok (.enter f us.toArray) w):o.wp P a w K Q:=by
 unfold inlE at he
 split at he
 case h_2=>simp at he
 rename_i R hR
 split at he
 case h_2=>simp at he
 rename_i r hc
 cases r with
 | shr v h' =>
  rw[Tfb]at he
  by_cases hcond:R.length<=h'.length/\2000+50*d+ (h'.length-R.length)<=100000/\okK h' 0=true/\ (v.refs.all fun i=>decide (i<h'.length))=true/\closeB h' h'.length=true
  case neg=>rw[if_neg hcond]at he; simp at he
  rw[if_pos hcond]at he
  obtain⟨c1,c2,c3,c4,_⟩:=hcond
  split at he
  case h_2=>simp at he
  rename_i fr hfr
  simp only[oIE]at he
  subst he
  obtain⟨hok',hcal⟩:=hG.shr hc
  have hRl:R.length<=1000000:=by have:=Te8 hR; omega
  unfold Oper.wp
  rw[hrun hcal,Oper.upon_enter]
  refine(S.shared hR hRl hr hok' c1 c3 (fun i hi=>by simpa using List.all_eq_true.1 c4 i (SV.mem_refs.2 hi)) hfr c2).mono ?_
  rintro en w' ⟨u,g',rfl,S',R'⟩
  exact hK g' w' u S' R'
 | _=>exact nomatch (show(none:Option Eff)=some e from he)
theorem Ts9 {R fr:List Nat}{o:Ob}(h:∀ e∈o.refs,e∈R): (o.mapr (pos R)).mapr (at0 (R++fr))=o:=by
 have hb:∀ e∈R,at0 (R++fr) (pos R e)=e:=fun e he=>by
  obtain⟨q1,q2⟩:=Tep he
  rw[Te7 q1,q2]
 cases o with
 | gr e k l =>
  simp only[Ob.mapr,List.map_map,Ob.gr.injEq,true_and]
  refine(List.map_congr_left (g:=id) fun c hc=> ?_).trans (List.map_id l)
  simp only[Function.comp_apply,List.map_map,id]
  refine(List.map_congr_left (g:=id) fun r hr=> ?_).trans (List.map_id c)
  simp only[Function.comp_apply,id,RV.mapr_mapr]
  exact RV.mapr_id fun e he=>hb e (h e (by
   simp only[Ob.refs,List.mem_filterMap,List.mem_flatten]
   exact⟨r,⟨c,hc,hr⟩,he⟩))
 | _=>rfl
theorem Sim.inn (S:Sim base w0 lm0 N g a w s){call:Call}(hG:Good P call){f:FuncId}{vs:List SV}{us:List Value}{d:Nat}{cl:Bool}{e:Eff}(hr:SRepL w g (get s.h) vs us)(he:innE call s d f vs cl=some e){K:Act->World->Prop}{Q:Exit->Act->World->Prop}
 (hK:∀ g' w' u,Sim base w0 lm0 N g' a w' ⟨s.t,putAll s.h e.hs⟩->SRep w' g' (get (putAll s.h e.hs)) e.v u->K (a.put o.dst u) w') (hrun:Callable P f-> (execOp a.eval o).run P w= .ok (.enter f us.toArray) w):o.wp P a w K Q:=by
 unfold innE at he
 split at he
 case h_2=>simp at he
 rename_i R hR
 split at he
 case isFalse=>simp at he
 split at he
 case h_2=>simp at he
 rename_i r hc
 cases r with
 | shn v h' =>
  rw[Tdl]at he
  by_cases hcond:2000+50*d+h'.length<=100000/\okK h' R.length=true/\ (v.refs.all fun i=>decide (i<R.length+h'.length))=true/\closeB h' (R.length+h'.length)=true
  case neg=>rw[if_neg hcond]at he; simp at he
  rw[if_pos hcond]at he
  obtain⟨c2,c3,c4,_⟩:=hcond
  split at he
  case h_2=>simp at he
  rename_i fr hfr
  simp only[oIE]at he
  subst he
  obtain⟨hok',hcal⟩:=hG.shn hc
  obtain⟨hRn,hRt,hRx,hRc⟩:=Tbv hR
  have hRe:∀ d∈R,get s.h d≠none:=fun d hd=>by obtain⟨o,q,_⟩:=hRx d hd; rw[q]; simp
  have hsl: (subH s.h (pos R) R 0).length=R.length:=Tj3 hRe
  have hll: (subH s.h (pos R) R 0++h').length=R.length+h'.length:=by rw[List.length_append,hsl]
  have hsk:okK (subH s.h (pos R) R 0) 0=true:=by
   rcases Ts7 (h:=s.h) (f:=pos R) (R:=R) (i0:=0)with h | ⟨d,h1,h2⟩
   · exact h
   · exact absurd h2 (hRe d h1)
  have happ:∀(l l2:List (Nat×Ob)) (i:Nat),okK l i=true->okK l2 (i+l.length)=true->okK (l++l2) i=true:=by
   intro l
   induction l with
   | nil=>intro l2 i _ h; simpa using h
   | cons q l ih =>
    intro l2 i h1 h2
    obtain⟨d,o⟩:=q
    simp only[okK,Bool.and_eq_true,List.cons_append,List.length_cons]at h1 h2 ⊢
    exact⟨h1.1,ih l2 (i+1) h1.2 (by rw[show i+1+l.length=i+ (l.length+1)by omega]; exact h2)⟩
  have hak:okK (subH s.h (pos R) R 0++h') 0=true:=happ _ _ 0 hsk (by rw[hsl,Nat.zero_add]; exact c3)
  have hRl:R.length<=1000000:=by have:=Te8 hR; omega
  unfold Oper.wp
  rw[hrun hcal,Oper.upon_enter]
  have hsub2: (subH s.h (pos R) R 0++h').length-R.length=h'.length:=by omega
  refine(S.shared (h':=subH s.h (pos R) R 0++h') (fr:=fr) (n0:=2000+50*d) hR hRl hr (hok' _ _ rfl) (by omega) hak (fun i hi=>by rw[hll]; simpa using List.all_eq_true.1 c4 i (SV.mem_refs.2 hi)) (by rw[hsub2]; exact hfr) (by rw[hsub2]; exact c2)).mono ?_
  rintro en w' ⟨u,g',rfl,S',R'⟩
  have hsame:∀ x,get (putAll s.h ((subH s.h (pos R) R 0++h').map fun q=> (at0 (R++fr) q.1,q.2.mapr (at0 (R++fr))))) x=get (putAll s.h (h'.map fun q=> (at0 (R++fr) q.1,q.2.mapr (at0 (R++fr))))) x:=by
   intro x
   rw[List.map_append,Tak]
   have h0:∀ x,get (putAll s.h ((subH s.h (pos R) R 0).map fun q=> (at0 (R++fr) q.1,q.2.mapr (at0 (R++fr))))) x=get s.h x:=by
    have key:∀(l:List (Nat×Ob)) (h:List (Nat×Ob)),(∀ q∈l,get s.h q.1=some q.2)-> (∀ x,get h x=get s.h x)->∀ x,get (putAll h l) x=get s.h x:=by
     intro l
     induction l with
     | nil=>intro h _ hh x; exact hh x
     | cons q l ih =>
      intro h hq hh x
      obtain⟨d,o⟩:=q
      rw[putAll]
      refine ih _ (fun q hq'=>hq q (by simp[hq'])) (fun x=> ?_) x
      rw[Tbf]
      split
      · rename_i hd; subst hd; exact(hq (d,o) (by simp)).symm
      · exact hh x
    refine key _ _ (fun q hq=> ?_) (fun x=>rfl)
    obtain⟨q',hq',rfl⟩:=List.mem_map.1 hq
    have hm:=Tfq hsk q' hq'
    have hgq:get (subH s.h (pos R) R 0) q'.1=some q'.2:=by
     have nd: ((subH s.h (pos R) R 0).map fun q=>q.1).Nodup:=by rw[Te9 hsk]; exact List.nodup_range' ..
     have gm:∀(l:List (Nat×Ob)),(l.map fun q=>q.1).Nodup->∀ q∈l,get l q.1=some q.2:=by
      intro l
      induction l with
      | nil=>intro _ q hq; simp at hq
      | cons p l ih =>
       intro hn q hq
       obtain⟨d,o⟩:=p
       simp only[List.map_cons,List.nodup_cons]at hn
       simp only[get]
       rcases List.mem_cons.1 hq with rfl | hq
       · rw[if_pos rfl]
       · rw[if_neg fun e=>hn.1 (List.mem_map.2 ⟨q,hq,e.symm⟩)]
         exact ih hn.2 q hq
     exact gm _ nd q' hq'
    rw[Tcx hRe]at hgq
    split at hgq
    case isFalse=>simp at hgq
    rename_i hlt
    rw[Nat.sub_zero]at hgq
    have hmem:at0 R q'.1∈R:=Ta7 (by omega)
    cases ho:get s.h (at0 R q'.1)with
    | none=>rw[ho]at hgq; simp at hgq
    | some o1 =>
     rw[ho]at hgq
     simp only[Option.map_some,oIE]at hgq
     rw[Te7 (by omega),ho,← hgq,Ts9 (hRc _ hmem o1 ho)]
   have pk:∀(l:List (Nat×Ob)) (h1 h2:List (Nat×Ob)),(∀ x,get h1 x=get h2 x)->∀ x,get (putAll h1 l) x=get (putAll h2 l) x:=by
    intro l
    induction l with
    | nil=>intro h1 h2 h x; exact h x
    | cons q l ih =>
     intro h1 h2 h x
     obtain⟨d,o⟩:=q
     rw[putAll,putAll]
     exact ih _ _ (fun x=>by rw[Tbf,Tbf,h]) x
   exact pk _ _ _ h0 x
  refine hK g' w' u (S'.same fun x=> (hsame x).symm) ?_
  rwa[show get (putAll s.h (h'.map fun q=> (at0 (R++fr) q.1,q.2.mapr (at0 (R++fr)))))=get (putAll s.h ((subH s.h (pos R) R 0++h').map fun q=> (at0 (R++fr) q.1,q.2.mapr (at0 (R++fr)))))from funext fun x=> (hsame x).symm]
 | _=>exact nomatch (show(none:Option Eff)=some e from he)
theorem Tqq (S:Sim base w0 lm0 N g a w s) {ao:AOp} {call:Call} (hG:Good P call) {d:Nat} {e:Eff} (h:okCall P o.op ao=true) (he:eff call s d ao=some e) {K:Act->World->Prop} {Q:Exit->Act->World->Prop}
 (hK:∀ g' w' u,Sim base w0 lm0 N g' a w' ⟨s.t,putAll s.h e.hs⟩->SRep w' g' (get (putAll s.h e.hs)) e.v u->K (a.put o.dst u) w'):o.wp P a w K Q:=by
 have fin:∀(f:FuncId) (zs:List PV) (us:List Value) (fr:List (Nat×Ob)) (r:Ret) (lm':Nat->Nat),call f zs=some r->ret1 s.h fr d r=some e->Sim base w0 lm0 N ⟨lm',g.v⟩ a w ⟨s.t,putAll s.h fr⟩-> (∀ d,Fz (get s.h d) (get (putAll s.h fr) d))->RepL w lm' zs us ->
  (execOp a.eval o).run P w= .ok (.enter f us.toArray) w->o.wp P a w K Q:=by
  intro f zs us fr r lm' hc hr1 S' hF hrl hrun
  unfold Oper.wp
  rw[hrun,Oper.upon_enter]
  refine((hG f zs r hc).1.plain (fun k T e1 h=>by subst h; simp[ret1]at hr1) (by cases r<;> first | rfl | (simp[ret1]at hr1)) w lm' us hrl).mono ?_
  rintro en w' ⟨u,lm2,rfl,hb,hl,hrr⟩
  obtain⟨g',S2,R2⟩:=S'.called hb hl hrr hF hr1 rfl
  exact hK g' w' u S2 R2
 have finD:∀(f:FuncId) (zs:List PV) (us:List Value) (fr:List (Nat×Ob)) (r:Ret) (lm':Nat->Nat),call f zs=some r->ret1d s.h fr d r=some e->Sim base w0 lm0 N ⟨lm',g.v⟩ a w ⟨s.t,putAll s.h fr⟩-> (∀ d,Fz (get s.h d) (get (putAll s.h fr) d))->RepL w lm' zs us ->
  (execOp a.eval o).run P w= .ok (.enter f us.toArray) w->o.wp P a w K Q:=by
  intro f zs us fr r lm' hc hr1 S' hF hrl hrun
  unfold Oper.wp
  rw[hrun,Oper.upon_enter]
  refine((hG f zs r hc).1.plain (fun k T e1 h=>by subst h; simp[ret1d]at hr1) (by cases r<;> first | rfl | (simp[ret1d]at hr1)) w lm' us hrl).mono ?_
  rintro en w' ⟨u,lm2,rfl,hb,hl,hrr⟩
  obtain⟨g',S2,R2⟩:=S'.calledD hb hl hrr hF hr1 rfl
  exact hK g' w' u S2 R2
 unfold okCall at h
 split at h
 case h_2=>simp at h
 rename_i c ho
 split at h
 · rename_i f f' ys hcal
   simp only[Bool.and_eq_true,beq_iff_eq]at h
   obtain⟨rfl,hys⟩:=h
   simp only[eff]at he
   cases hv:evs s ys with
   | none=>rw[hv]at he; simp at he
   | some vs =>
    rw[hv]at he
    dsimp only at he
    cases hf:AM.frzs s.h vs with
    | none=>rw[hf]at he; simp at he
    | some q =>
     obtain⟨zs,fr⟩:=q
     rw[hf]at he
     dsimp only at he
     cases hc:call f zs with
     | none=>rw[hc]at he; simp at he
     | some r =>
      rw[hc]at he
      obtain⟨lm',S1,rl,T1,F1⟩:=Tcb S (fun d=>Fz.refl _) (Ta1 S hys hv) hf
      refine fin f zs _ fr r lm' hc he S1 F1 rl ?_
      simp[execOp,ho,resolve,hcal,Act.eval,Deferred.ofValue,invoke,Ta3 (hG.cal hc (by cases r<;> first | rfl | (simp[ret1,ret1d]at he)))]
      congr 2
      apply Array.ext'
      simp
 · rename_i f f' ys hcal
   simp only[Bool.and_eq_true,beq_iff_eq]at h
   obtain⟨rfl,hys⟩:=h
   simp only[eff]at he
   cases hv:evs s ys with
   | none=>rw[hv]at he; simp at he
   | some vs =>
    rw[hv]at he
    dsimp only at he
    cases hf:AM.frzs s.h vs with
    | none=>rw[hf]at he; simp at he
    | some q =>
     obtain⟨zs,fr⟩:=q
     rw[hf]at he
     dsimp only at he
     cases hc:call f zs with
     | none=>rw[hc]at he; simp at he
     | some r =>
      rw[hc]at he
      obtain⟨lm',S1,rl,T1,F1⟩:=Tcb S (fun d=>Fz.refl _) (Ta1 S hys hv) hf
      refine finD f zs _ fr r lm' hc he S1 F1 rl ?_
      simp[execOp,ho,resolve,hcal,Act.eval,Deferred.ofValue,invoke,Ta3 (hG.cal hc (by cases r<;> first | rfl | (simp[ret1,ret1d]at he)))]
      congr 2
      apply Array.ext'
      simp
 · rename_i f f' ys hcal
   simp only[Bool.and_eq_true,beq_iff_eq]at h
   obtain⟨rfl,hys⟩:=h
   simp only[eff]at he
   cases hv:evs s ys with
   | none=>rw[hv]at he; simp at he
   | some vs =>
    rw[hv]at he
    dsimp only at he
    refine S.inl hG (Ta1 S hys hv) he hK fun hcc=> ?_
    simp[execOp,ho,resolve,hcal,Act.eval,Deferred.ofValue,invoke,Ta3 hcc]
    congr 2
    apply Array.ext'
    simp
 · rename_i f f' ys hcal
   simp only[Bool.and_eq_true,beq_iff_eq]at h
   obtain⟨rfl,hys⟩:=h
   simp only[eff]at he
   cases hv:evs s ys with
   | none=>rw[hv]at he; simp at he
   | some vs =>
    rw[hv]at he
    dsimp only at he
    refine S.inn hG (Ta1 S hys hv) he hK fun hcc=> ?_
    simp[execOp,ho,resolve,hcal,Act.eval,Deferred.ofValue,invoke,Ta3 hcc]
    congr 2
    apply Array.ext'
    simp
 · rename_i f f' ys hcal
   simp only[Bool.and_eq_true,beq_iff_eq]at h
   obtain⟨rfl,hys⟩:=h
   simp only[eff]at he
   cases hv:evs s ys with
   | none=>rw[hv]at he; simp at he
   | some vs =>
    rw[hv]at he
    dsimp only at he
    refine S.inn hG (Ta1 S hys hv) he hK fun hcc=> ?_
    simp[execOp,ho,resolve,hcal,Act.eval,Deferred.ofValue,invoke,Ta3 hcc]
    congr 2
    apply Array.ext'
    simp
 · rename_i f f' y1 y2 hcal
   simp only[Bool.and_eq_true,beq_iff_eq]at h
   obtain⟨rfl,hys⟩:=h
   simp only[eff]at he
   cases hc:call f []with
   | none=>rw[hc]at he; simp at he
   | some r =>
    rw[hc]at he
    dsimp only at he
    obtain⟨hcr,hcal2⟩:=hG f [] r hc
    unfold sbwE at he
    split at he
    case h_2=>simp at he
    rename_i kd T e1
    split at he
    case h_2=>simp at he
    rename_i d' i j yv hx hy
    split at he
    case h_2=>simp at he
    rename_i bs hadd
    split at he
    case h_2=>simp at he
    rename_i T' k rr hd
    split at he
    case h_2=>simp at he
    rename_i e2 l hr
    split at he
    case isFalse=>simp at he
    rename_i hcond
    obtain⟨rfl,rfl,rfl,rfl,rfl,hle⟩:=hcond
    obtain rfl:=Tog hr
    simp only[oIE]at he
    subst he
    have hev:evs s [y1,y2]=some [.mp d' 0 0,.p yv]:=by simp only[evs,hx,hy]
    have hsr:=Ta1 S hys hev
    obtain⟨b,p,v,hv,hbb,hg,hp,hn,hR,hlm⟩:=Ts2 (S.ob d' _ hd)
    obtain⟨u1,u2,hargs,hu1,hu2⟩:∃ u1 u2,c.args.toList.map a.eval= [u1,u2]/\SRep w g (get s.h) (.mp d' 0 0) u1/\SRep w g (get s.h) (.p yv) u2:=by
     generalize c.args.toList.map a.eval=us at hsr
     cases hsr with
     | cons h1 h2=>cases h2 with
      | cons h2 h3=>cases h3; exact⟨_,_,rfl,h1,h2⟩
    simp only[SRep,hd]at hu1
    obtain⟨b',hb',rfl⟩:=hu1
    rw[hv]at hb'
    simp[blk]at hb'
    subst hb'
    obtain⟨r1,r2,⟨xs,r3,r4,r5⟩,r6⟩:=hR
    have r3':=r3
    rw[hn]at r3'
    have hxl:xs.length=l.length:=by have:=r3'.1; omega
    have hbv:blk v≠some b:=fun e=>by
     obtain⟨own,hap⟩:=S.ap
     have z1:=hap d' _ d' b hd rfl (.self _ _) (by rw[hv]; rfl)
     have z2:=hap d' _ (nid d' 1) b hd rfl (Tcm.2 (.inr rfl)) (by rw[hn]; exact e)
     have:=Tc4 d' 1
     have:=S.lt _ _ hd
     omega
    have hP:SbPut P T' e2 f u2 (bs.map fun c=>Value.int .u8 c.toNat):=by
     unfold sbAdd at hadd
     split at hadd
     · split at hadd
       case isFalse=>simp at hadd
       rename_i hk1
       subst hk1
       obtain rfl:=oIj hadd
       have hv2:=Ta6 hu2
       subst hv2
       have:SbOK P 1 T' e2 f:=hcr
       simp only[SbOK,if_true]at this
       exact this.put _
     · split at hadd
       case isFalse=>simp at hadd
       rename_i hk1
       obtain⟨rfl,r0,r1⟩:=hk1
       obtain rfl:=oIj hadd
       have hv2:=Ta6 hu2
       subst hv2
       have:SbOK P 3 T' e2 f:=hcr
       exact SbRune.put (by simpa[SbOK]using this) _ r0 r1
     · simp at hadd
    unfold Oper.wp
    have hrun: (execOp a.eval o).run P w= .ok (.enter f #[.pointer (some ⟨b,0,none⟩),u2]) w:=by
     have e3:c.args.map a.eval= #[.pointer (some ⟨b,0,none⟩),u2]:=by
      apply Array.ext'
      rw[Array.toList_map,hargs]
     have hf0:a.eval (.func f)= .func (.func f) #[] #[]:=rfl
     simp[execOp,ho,resolve,hcal,hf0,Deferred.ofValue,invoke,Ta3 (show Callable P f from hcal2),e3]
    rw[hrun,Oper.upon_enter]
    refine(hP base b p v xs w hbb S.bw hp hg (by rw[hxl]; exact r3') hbv (by rw[hxl,List.length_map]; exact hle)).mono ?_
    rintro en w' ⟨rfl,v',q1,q2,q3,q4,q5⟩
    obtain⟨g',S2⟩:=S.sbw hd hv hbb hg hn ⟨r1,r2,⟨xs,r3,r4,r5⟩,r6⟩ hlm r4 r5 q1 (by rw[← hxl]; simpa using q2) q3 q4 q5
    have hres:Rep w' g'.lm (.tu [.sc (.int .i64 bs.length),.sc .nilIface]) (.tuple #[.int .i64 (bs.map fun c=>Value.int .u8 c.toNat).length,.nilIface]):=by
     rw[List.length_map]
     exact .tu (vs:= [.int .i64 bs.length,.nilIface]) (.cons (.sc _) (.cons (.sc _) .nil))
    exact hK g' w' _ S2 hres
 · rename_i f f' y1 hcal
   simp only[Bool.and_eq_true,beq_iff_eq]at h
   obtain⟨rfl,hys⟩:=h
   simp only[eff]at he
   cases hc:call f []with
   | none=>rw[hc]at he; simp at he
   | some r =>
    rw[hc]at he
    dsimp only at he
    obtain⟨hcr,hcal2⟩:=hG f [] r hc
    unfold sbsE at he
    split at he
    case h_2=>simp at he
    rename_i kd T e1
    split at he
    case h_2=>simp at he
    rename_i d' i j hx
    split at he
    case h_2=>simp at he
    rename_i T' k rr hd
    split at he
    case h_2=>simp at he
    rename_i e2 l hr
    split at he
    case isFalse=>simp at he
    rename_i hcond
    obtain⟨rfl,rfl,rfl,rfl,rfl,rfl⟩:=hcond
    obtain rfl:=Tog hr
    cases hbl:sbBytes l with
    | none=>rw[hbl]at he; simp at he
    | some bl =>
    rw[hbl]at he
    simp only[oIE]at he
    subst he
    have hev:evs s [y1]=some [.mp d' 0 0]:=by simp only[evs,hx]
    have hsr:=Ta1 S hys hev
    obtain⟨b,p,v,hv,hbb,hg,hp,hn,hR,hlm⟩:=Ts2 (S.ob d' _ hd)
    obtain⟨u1,hargs,hu1⟩:∃ u1,c.args.toList.map a.eval= [u1]/\SRep w g (get s.h) (.mp d' 0 0) u1:=by
     generalize c.args.toList.map a.eval=us at hsr
     cases hsr with
     | cons h1 h2=>cases h2; exact⟨_,rfl,h1⟩
    simp only[SRep,hd]at hu1
    obtain⟨b',hb',rfl⟩:=hu1
    rw[hv]at hb'
    simp[blk]at hb'
    subst hb'
    have hR0:=hR
    obtain⟨r1,r2,⟨xs,r3,r4,r5⟩,r6⟩:=hR
    have r3':=r3
    rw[hn]at r3'
    obtain⟨hxs,hll⟩:=Thi hbl r4
    have hbv:blk v≠some b:=fun e=>by
     obtain⟨own,hap⟩:=S.ap
     have z1:=hap d' _ d' b hd rfl (.self _ _) (by rw[hv]; rfl)
     have z2:=hap d' _ (nid d' 1) b hd rfl (Tcm.2 (.inr rfl)) (by rw[hn]; exact e)
     have:=Tc4 d' 1
     have:=S.lt _ _ hd
     omega
    have hW:SbString P T' e2 f:=by
     have:SbOK P 2 T' e2 f:=hcr
     simpa[SbOK]using this
    unfold Oper.wp
    have hrun: (execOp a.eval o).run P w= .ok (.enter f #[.pointer (some ⟨b,0,none⟩)]) w:=by
     have e3:c.args.map a.eval= #[.pointer (some ⟨b,0,none⟩)]:=by
      apply Array.ext'
      rw[Array.toList_map,hargs]
     have hf0:a.eval (.func f)= .func (.func f) #[] #[]:=rfl
     simp[execOp,ho,resolve,hcal,hf0,Deferred.ofValue,invoke,Ta3 (show Callable P f from hcal2),e3]
    rw[hrun,Oper.upon_enter]
    refine(hW base b p v bl w hbb S.bw hp hg (by rw[← hxs,← hll]; exact r3') hbv).mono ?_
    rintro en w' ⟨rfl,q4,q5⟩
    have S2:=S.sbs hd hn hR0 q4 q5
    exact hK g w' _ S2 (.sc _)
 · rename_i x y ys hcal
   simp only[Bool.and_eq_true]at h
   obtain⟨hx,hys⟩:=h
   simp only[eff]at he
   cases hv0:y.ev s with
   | none=>rw[hv0]at he; simp at he
   | some v0 =>
    cases hv:evs s ys with
    | none=>rw[hv0,hv]at he; cases v0<;> simp at he
    | some vs =>
     rw[hv0,hv]at he
     have hr0:=Tag S hx hv0
     split at he
     · rename_i f cs _ h1 h2
       obtain rfl:=oIj h1
       obtain rfl:=oIj h2
       obtain⟨us,hu,hl⟩:=hr0
       refine S.inl hG ((Ta1 S hys hv).append hl.srepl) he hK fun hcc=> ?_
       simp[execOp,ho,resolve,hcal,hu,Deferred.ofValue,invoke,Ta3 hcc]
     · rename_i f cs _ h1 h2
       obtain rfl:=oIj h1
       obtain rfl:=oIj h2
       obtain⟨us,hu,hl⟩:=Ty7 (ev_p S hx hv0)
       refine S.inl hG ((Ta1 S hys hv).append hl.srepl) he hK fun hcc=> ?_
       simp[execOp,ho,resolve,hcal,hu,Deferred.ofValue,invoke,Ta3 hcc]
     · simp at he
 · rename_i x y ys hcal
   simp only[Bool.and_eq_true]at h
   obtain⟨hx,hys⟩:=h
   simp only[eff]at he
   cases hv0:y.ev s with
   | none=>rw[hv0]at he; simp at he
   | some v0 =>
    cases hv:evs s ys with
    | none=>rw[hv0,hv]at he; cases v0<;> simp at he
    | some vs =>
     rw[hv0,hv]at he
     split at he
     · rename_i f cs _ h1 h2
       obtain rfl:=oIj h1
       obtain rfl:=oIj h2
       cases hf:AM.frzs s.h vs with
       | none=>rw[hf]at he; simp at he
       | some q =>
        obtain⟨zs,fr⟩:=q
        rw[hf]at he
        dsimp only at he
        cases hc:call f (zs++cs)with
        | none=>rw[hc]at he; simp at he
        | some r =>
         rw[hc]at he
         obtain⟨lm',S1,rl,T1,F1⟩:=Tcb S (fun d=>Fz.refl _) (Ta1 S hys hv) hf
         obtain⟨us,hu,hl⟩:=Ty7 (ev_p S hx hv0)
         refine fin f (zs++cs) _ fr r lm' hc he S1 F1 (rl.append (hl.ext T1.ext)) ?_
         simp[execOp,ho,resolve,hcal,hu,Deferred.ofValue,invoke,Ta3 (hG.cal hc (by cases r<;> first | rfl | (simp[ret1,ret1d]at he)))]
     · simp at he
 · rename_i x m t f m' y ys hcal
   simp only[Bool.and_eq_true,beq_iff_eq]at h
   obtain⟨⟨⟨rfl,hx⟩,hys⟩,hm⟩:=h
   simp only[eff]at he
   cases hv0:y.ev s with
   | none=>rw[hv0]at he; simp at he
   | some v0 =>
    cases hv:evs s ys with
    | none=>rw[hv0,hv]at he; cases v0<;> simp at he
    | some vs =>
     rw[hv0,hv]at he
     split at he
     · rename_i t' z _ h1 h2
       obtain rfl:=oIj h1
       obtain rfl:=oIj h2
       split at he
       case isFalse=>simp at he
       rename_i ht
       subst ht
       cases hf:AM.frzs s.h vs with
       | none=>rw[hf]at he; simp at he
       | some q =>
        obtain⟨zs,fr⟩:=q
        rw[hf]at he
        dsimp only at he
        cases hc:call f (z::zs)with
        | none=>rw[hc]at he; simp at he
        | some r =>
         rw[hc]at he
         obtain⟨lm',S1,rl,T1,F1⟩:=Tcb S (fun d=>Fz.refl _) (Ta1 S hys hv) hf
         obtain⟨v,hu,hz⟩:=Tz2 (ev_p S hx hv0)
         refine fin f (z::zs) _ fr r lm' hc he S1 F1 (.cons (hz.ext T1.ext) rl) ?_
         have hd:P.types.size+Made.depth= (P.types.size+Made.depth-1)+1:=by simp[Made.depth]
         have hmm:=Tqp hm (P.types.size+Made.depth-1) v w
         rw[← hd]at hmm
         have e0: (#[Value.iface t' v]++Array.map a.eval c.args)[0]?=some (.iface t' v):=by rw[Array.getElem?_append_left (by simp)]; rfl
         simp only[execOp,ho,resolve,hcal,hu,invoke,Sem.run_bind,Sem.run_pure,Result.andThen_ok]
         rw[e0]
         simp only[callMethod,Sem.run_bind,run_program,Result.andThen_ok,hmm,Ta3 (hG.cal hc (by cases r<;> first | rfl | (simp[ret1,ret1d]at he)))]
         congr 2
         apply Array.ext'
         simp
         rw[List.take_of_length_le (by simp)]
     · simp at he
 · simp at h
end
end Go.Proofs.YtjpibniecllafaaGreat.AM
end
section
namespace Go.Proofs.YtjpibniecllafaaGreat.AM
open Go Go.RowKit
def okOper (P:Program)(N:Nat)(ops:Array Oper)(o:Oper)(ao:AOper):Bool :=
 decide (ao.d=o.dst)&& (match ao.d with | some d=>decide (d<N) | none=>true) &&
 (match o.guard,ao.g with
  | none,none=>true
  | some (j,b),some (g,b')=>b == b'&&decide ((ops[j]?).bind (·.dst)=some g)
  | _,_=>false)&& (okA P o.op ao.o||okCall P o.op ao.o)
section
variable {P:Program}{base:Nat}{w0:World}{lm0:L0}{N:Nat}{g:Gs}{a:Act}{w:World}{s:St}{o:Oper}
theorem Sim.puts (S:Sim base w0 lm0 N g a w s){ao:AOper}{dst:Option Tmp}{v:SV}{u:Value}(hd:ao.d=dst)(hN: (match ao.d with | some d=>decide (d<N) | none=>true)=true)(hr:SRep w g (get s.h) v u):Sim base w0 lm0 N g (a.put dst u) w ⟨AM.puts s.t ao.d v,s.h⟩:=by
 subst hd
 cases hq:ao.d with
 | none=>exact S
 | some d =>
  rw[hq]at hN
  exact S.put (by simpa using hN) hr
theorem Ti4 (S:Sim base w0 lm0 N g a w s) {ops:Array Oper} {ao:AOper} {call:Call} (hG:Good P call) {i:Nat} (hi:ops[i]?=some o) (hok:okOper P N ops o ao=true) {s':St} (hs:step call ao s=some s') {K:Act->World->Prop} {Q:Exit->Act->World->Prop}
 (hK:∀ g' a' w',Sim base w0 lm0 N g' a' w' s'->K a' w'):wpOp P ops Q i K a w:=by
 simp only[okOper,Bool.and_eq_true,decide_eq_true_eq]at hok
 obtain⟨⟨⟨hd,hN⟩,hgd⟩,hop⟩:=hok
 have run:∀ {e:Eff},eff call s (ao.d.getD 0) ao.o=some e->s'= ⟨AM.puts s.t ao.d e.v,putAll s.h e.hs⟩->o.wp P a w K Q:=by
  rintro e he rfl
  simp only[Bool.or_eq_true]at hop
  rcases hop with hop | hop
  · obtain⟨u,w',g',hrun,S',R'⟩:=Ts6 S hop he
    unfold Oper.wp
    rcases hrun with hrun | ⟨hrun,rfl⟩
    · rw[hrun,Oper.upon_value]
      exact hK g' _ _ (S'.puts hd hN R')
    · rw[hrun,Oper.upon_skip]
      exact hK g' _ _ (S'.puts hd hN R')
  · exact Tqq S hG hop he fun g' w' u S' R'=>hK g' _ _ (S'.puts hd hN R')
 have nope:s'= ⟨AM.puts s.t ao.d undefS,s.h⟩->K (a.put o.dst undef) w:=by
  rintro rfl
  exact hK g _ _ (S.puts hd hN (Rep.sc _))
 unfold wpOp
 simp only[hi]
 unfold step at hs
 cases hg:o.guard with
 | none =>
  rw[hg]at hgd
  cases hag:ao.g with
  | some q=>rw[hag]at hgd; simp at hgd
  | none =>
   rw[hag]at hs
   have hw:Region.wanted o (yielded ops a.tmps)=true:=by simp[Region.wanted,hg]
   rw[if_pos hw]
   left
   cases he:eff call s (ao.d.getD 0) ao.o with
   | none=>rw[he]at hs; simp at hs
   | some e =>
    rw[he]at hs
    exact run he (oIj hs).symm
 | some q =>
  obtain⟨j,b⟩:=q
  rw[hg]at hgd
  cases hag:ao.g with
  | none=>rw[hag]at hgd; simp at hgd
  | some q =>
   obtain⟨gs,b'⟩:=q
   rw[hag]at hgd hs
   simp only[Bool.and_eq_true,beq_iff_eq,decide_eq_true_eq]at hgd
   obtain⟨rfl,hgs⟩:=hgd
   dsimp only at hs
   cases hv:get s.t gs with
   | none=>rw[hv]at hs; simp at hs
   | some v =>
    rw[hv]at hs
    dsimp only at hs
    obtain⟨u,hu,hr⟩:=S.tm _ _ hv
    split at hs
    · rename_i b1
      have hb:=Tgm hr
      have hy:yielded ops a.tmps j=some b1:=by
       simp only[yielded,hgs,Option.bind_some,hu,hb]
      split at hs
      · rename_i hbb
        subst hbb
        have hw:Region.wanted o (yielded ops a.tmps)=true:=by simp[Region.wanted,hg,hy]
        rw[if_pos hw]
        left
        cases he:eff call s (ao.d.getD 0) ao.o with
        | none=>rw[he]at hs; simp at hs
        | some e =>
         rw[he]at hs
         exact run he (oIj hs).symm
      · rename_i hbb
        have hw:¬ Region.wanted o (yielded ops a.tmps)=true:=by simpa[Region.wanted,hg,hy]using hbb
        rw[if_neg hw]
        exact nope (oIj hs).symm
    · have hb:=Ta6 hr
      have hy:yielded ops a.tmps j=none:=by
       simp only[yielded,hgs,Option.bind_some,hu,hb]
      have hw:¬ Region.wanted o (yielded ops a.tmps)=true:=by simp[Region.wanted,hg,hy]
      rw[if_neg hw]
      exact nope (oIj hs).symm
    · simp at hs
theorem Tcd {α:Type}(p:Nat->Bool):∀(l:List (Nat×α)) (n:Nat),get (l.filter fun q=>p q.1) n=if p n then get l n else none
 | [],n=>by simp[get]
 | (e,u)::l,n=>by
  have ih:=Tcd p l n
  by_cases he:p e
  · rw[List.filter_cons_of_pos (by simpa using he)]
    simp only[get,ih]
    by_cases hn:e=n
    · subst hn; simp[he]
    · simp[hn]
  · rw[List.filter_cons_of_neg (by simpa using he),ih]
    simp only[get]
    by_cases hn:e=n
    · subst hn; simp[he]
    · simp[hn]
theorem Tdm {α:Type}:∀ {l:List (Nat×α)} {n:Nat} {v:α},get l n=some v-> (n,v)∈l
 | [],n,v,h=>by simp[get]at h
 | (e,u)::l,n,v,h=>by
  simp only[get]at h
  split at h
  · rename_i he; subst he; simp at h; subst h; simp
  · exact List.mem_cons_of_mem _ (Tdm h)
theorem Tm0 {α:Type}(f:α->α):∀(l:List (Nat×α)) (n:Nat),get (l.map fun q=> (q.1,f q.2)) n= (get l n).map f
 | [],n=>by simp[get]
 | (e,u)::l,n=>by
  simp only[List.map_cons,get]
  split
  · rfl
  · exact Tm0 f l n
theorem QRep.weak {h h':Nat->Option Ob}{v:RV}{u:Value}(hr:QRep w g h v u)(hh:∀ d,v.ref d=true->h' d=h d):QRep w g h' v u:=by
 cases v with
 | p x=>exact hr
 | ms d off len=>simp only[QRep]at hr ⊢; rw[hh d (by simp[RV.ref])]; exact hr
 | mp d i j=>simp only[QRep]at hr ⊢; rw[hh d (by simp[RV.ref])]; exact hr
 | mo d=>simp only[QRep]at hr ⊢; rw[hh d (by simp[RV.ref])]; exact hr
theorem QRepL.weak {h h':Nat->Option Ob}:∀ {l:List RV} {us:List Value},QRepL w g h l us-> (∀ r∈l,∀ d,r.ref d=true->h' d=h d)->QRepL w g h' l us
 | _,_,.nil,_=> .nil
 | _,_,.cons a b,hh=> .cons (a.weak fun d hd=>hh _ (by simp) d hd) (b.weak fun r hr d hd=>hh r (by simp[hr]) d hd)
theorem SRep.weak {h h':Nat->Option Ob}{v:SV}{u:Value}(hr:SRep w g h v u)(hh:∀ d,v.ref d=true->h' d=h d):SRep w g h' v u:=by
 have many:∀(l:List RV),(∀ d,l.any (·.ref d)=true->h' d=h d)->∀ r∈l,∀ d,r.ref d=true->h' d=h d:=fun l hl r hr d hd=>hl d (List.any_eq_true.2 ⟨r,hr,hd⟩)
 cases v with
 | p x=>exact hr
 | xs k l=>exact hr
 | ms d off len=>simp only[SRep]at hr ⊢; rw[hh d (by simp[SV.ref])]; exact hr
 | mp d i j=>simp only[SRep]at hr ⊢; rw[hh d (by simp[SV.ref])]; exact hr
 | mo d=>simp only[SRep]at hr ⊢; rw[hh d (by simp[SV.ref])]; exact hr
 | sst l=>obtain⟨vs,h1,h2,h3⟩:=hr; exact⟨vs,h1,h2.weak (many l fun d hd=>hh d hd),h3⟩
 | stu l=>obtain⟨vs,h1,h2⟩:=hr; exact⟨vs,h1,h2.weak (many l fun d hd=>hh d hd)⟩
 | fnv f l=>obtain⟨vs,h1,h2⟩:=hr; exact⟨vs,h1,h2.weak (many l fun d hd=>hh d hd)⟩
theorem Sim.less (S:Sim base w0 lm0 N g a w s){t:List (Nat×SV)}{h:List (Nat×Ob)}(ht:∀ n v,get t n=some v->get s.t n=some v)(hh:∀ d o,get h d=some o->get s.h d=some o)(hr:∀ n v d,get t n=some v->v.ref d=true->get h d=get s.h d)
 (hq:∀ d o d',get h d=some o->o.ref d'=true->get h d'=get s.h d') (hp:∀ d,pinned s.h d=true∨d=999999->get h d=get s.h d):Sim base w0 lm0 N g a w ⟨t,h⟩:=by
 have hpin:∀ l,lm0.pl=some l->∀ d∈l,pinned s.h d=true:=fun l hl d hd=>by
  unfold pinned
  rw[(S.px l hl).1]
  simpa using hd
 refine⟨S.bas,S.size,S.defers,S.below,S.lm,fun n v hn=>let⟨u,h1,h2⟩:=S.tm n v (ht n v hn); ⟨u,h1,h2.weak fun d hd=>hr n v d hn hd⟩,fun d o hd=>S.ob d o (hh d o hd),fun d o hd=>S.lt d o (hh d o hd),let⟨own,hap⟩:=S.ap; ⟨own,fun d o x b hd hl hi hb=>hap d o x b (hh d o hd) hl hi hb⟩,
  fun d e k l xs hd hw=> (S.gs d e k l xs (hh d _ hd) hw).weak fun r hrl d' hd'=>hq d _ d' hd ?_,fun v u ho=> (S.ov v u ho).weak fun d hd=> ?_,S.pn,fun l hl=> ⟨?_,fun d hd=> ?_⟩,⟨S.fr.ex,S.fr.sz,S.fr.kf,fun b hb d o x hd=>S.fr.kd b hb d o x (hh d o hd)⟩⟩
 · obtain⟨c,hc,hrc⟩:=List.mem_flatten.1 hrl
   exact List.any_eq_true.2 ⟨c,hc,List.any_eq_true.2 ⟨r,hrc,hd'⟩⟩
 · obtain⟨l,hl,hd2⟩:=S.pn v u ho d hd
   exact hp d (.inl (hpin l hl d hd2))
 · rw[hp 999999 (.inr rfl)]; exact(S.px l hl).1
 · rw[hp d (.inl (hpin l hl d hd))]; exact(S.px l hl).2 d hd
theorem Sim.keepGc (S:Sim base w0 lm0 N g a w s)(keep:List Nat):Sim base w0 lm0 N g a w ⟨keepT keep s.t,gc (keepT keep s.t) s.h⟩:=by
 have hg:∀ d,get (gc (keepT keep s.t) s.h) d=if((keepT keep s.t).any (fun r=>r.2.ref d)|| (s.h.any fun r=>r.2.ref d)||pinned s.h d||d == 999999)then get s.h d else none:=fun d=>Tcd (fun d=> ((keepT keep s.t).any fun r=>r.2.ref d)|| (s.h.any fun r=>r.2.ref d)||pinned s.h d||d == 999999) s.h d
 have hh:∀ d o,get (gc (keepT keep s.t) s.h) d=some o->get s.h d=some o:=fun d o hd=>by
  rw[hg]at hd
  split at hd
  · exact hd
  · simp at hd
 refine S.less (fun n v hn=> ?_) hh (fun n v d hn hd=> ?_) (fun d o d' hd hr=> ?_) (fun d hd=> ?_)
 · have:=Tcd (fun n=>keep.contains n) s.t n
   simp only[keepT]at hn
   rw[this]at hn
   split at hn
   · exact hn
   · simp at hn
 · have h1: ((keepT keep s.t).any fun r=>r.2.ref d)=true:=List.any_eq_true.2 ⟨(n,v),Tdm hn,hd⟩
   rw[hg,h1]; simp
 · have h1: (s.h.any fun r=>r.2.ref d')=true:=List.any_eq_true.2 ⟨(d,o),Tdm (hh d o hd),hr⟩
   rw[hg,h1]; simp
 · rw[hg]
   rcases hd with h1 | h1
   · rw[h1]; simp
   · rw[h1]; simp
theorem RV.ren_no {a b :Nat}:∀ {r:RV},r.ref a=false->r.ren a b=r
  | .p _,_=>rfl
  | .ms d o n, h => by have:d≠a:=by simpa[RV.ref]using h
                       simp[RV.ren,this]
  | .mp d i j, h => by have:d≠a:=by simpa[RV.ref]using h
                       simp[RV.ren,this]
  | .mo d, h => by have:d≠a:=by simpa[RV.ref]using h
                   simp[RV.ren,this]
theorem RV.rens_no {a b:Nat}{l:List RV}(h:l.any (·.ref a)=false):l.map (·.ren a b)=l:=by
 refine(List.map_congr_left (g:=id) fun r hr=>RV.ren_no ?_).trans (List.map_id l)
 have:=List.any_eq_false.1 h r hr
 simpa using this
theorem SV.ren_no {a b:Nat}{v:SV}(h:v.ref a=false):v.ren a b=v:=by
  cases v with
  | p x=>rfl
  | xs k l=>rfl
  | ms d o n => have:d≠a:=by simpa[SV.ref]using h
                simp[SV.ren,this]
  | mp d i j => have:d≠a:=by simpa[SV.ref]using h
                simp[SV.ren,this]
  | mo d => have:d≠a:=by simpa[SV.ref]using h
            simp[SV.ren,this]
  | sst l=>simp only[SV.ren,RV.rens_no (show l.any (·.ref a)=false from h)]
  | stu l=>simp only[SV.ren,RV.rens_no (show l.any (·.ref a)=false from h)]
  | fnv f l=>simp only[SV.ren,RV.rens_no (show l.any (·.ref a)=false from h)]
theorem Sim.ren1 (S:Sim base w0 lm0 N g a w s) (n:Nat):∃ g',Sim base w0 lm0 N g' a w (AM.ren1 s n):=by
 unfold AM.ren1
 cases hv:get s.t n with
 | none=>exact⟨g,S⟩
 | some v =>
  dsimp only
  cases hd:v.id? with
  | none=>exact⟨g,S⟩
  | some d =>
   dsimp only
   by_cases hdn:d=n
   · rw[if_pos hdn]; exact⟨g,S⟩
   · rw [if_neg hdn]
     cases hn:get s.h n with
     | some o=>exact⟨g,S⟩
     | none =>
      cases ho:get s.h d with
      | none=>exact⟨g,S⟩
      | some o =>
       dsimp only
       split
       case isFalse=>exact⟨g,S⟩
       rename_i hcond
       obtain⟨hdp,hn8,hlv,hpn,hall,htl⟩:=hcond
       let g':Gs:= ⟨g.lm,upd g.v n (g.v d)⟩
       have hget:∀ e,get (AM.put (s.h.filter fun q=>q.1 !=d) n o) e=if n=e then some o else if e=d then none else get s.h e:=by
        intro e
        rw[Tbf]
        split
        · rfl
        · have:=Tcd (fun x=>x !=d) s.h e
          rw[this]
          by_cases he:e=d<;> simp[he]
       have hni:∀ e o1 x,get s.h e=some o1->Ids e o1 x->x≠n:=fun e o1 x h1 hi hx=>by
        have:=hi.lt (by rw[hx]; omega)
        rw[← this,hx,hn]at h1
        simp at h1
       have gne:∀ e,e≠n->g'.v e=g.v e:=fun e he=>Tbc _ he _
       have gn:g'.v n=g.v d:=Tai _ _ _
       have qk:∀ r u,QRep w g (get s.h) r u->r.ref d=false->QRep w g' (get (AM.put (s.h.filter fun q=>q.1 !=d) n o)) r u:=by
        intro r u hr hd'
        cases r with
        | p x=>exact hr
        | ms e off len =>
         have he:e≠d:=by simpa[RV.ref]using hd'
         have hen:e≠n:=fun h=>by subst h; simp only[QRep,hn]at hr
         simp only[QRep,hget,if_neg (Ne.symm hen),if_neg he,gne e hen]
         exact hr
        | mp e i j =>
         have he:e≠d:=by simpa[RV.ref]using hd'
         have hen:e≠n:=fun h=>by subst h; simp only[QRep,hn]at hr
         simp only[QRep,hget,if_neg (Ne.symm hen),if_neg he,gne e hen]
         exact hr
        | mo e =>
         have he:e≠d:=by simpa[RV.ref]using hd'
         have hen:e≠n:=fun h=>by subst h; simp only[QRep,hn]at hr
         simp only[QRep,hget,if_neg (Ne.symm hen),if_neg he,gne e hen]
         exact hr
       have qkl:∀(l:List RV) (us:List Value),QRepL w g (get s.h) l us-> (∀ r∈l,r.ref d=false)->QRepL w g' (get (AM.put (s.h.filter fun q=>q.1 !=d) n o)) l us:=by
        intro l us hq
        induction hq with
        | nil=>intro _; exact .nil
        | cons a b ih=>intro hh; exact .cons (qk _ _ a (hh _ (by simp))) (ih fun r hr=>hh r (by simp[hr]))
       have qal:∀(l:List RV),l.any (·.ref d)=false->∀ r∈l,r.ref d=false:=fun l h r hr=>by simpa using List.any_eq_false.1 h r hr
       have sk:∀ v u,SRep w g (get s.h) v u->v.ref d=false->SRep w g' (get (AM.put (s.h.filter fun q=>q.1 !=d) n o)) v u:=by
        intro v u hr hd'
        cases v with
        | p x=>exact hr
        | xs k l=>exact hr
        | ms e off len=>exact QRep.sv.1 (qk (.ms e off len) u (QRep.sv.2 hr) hd')
        | mp e i j=>exact QRep.sv.1 (qk (.mp e i j) u (QRep.sv.2 hr) hd')
        | mo e=>exact QRep.sv.1 (qk (.mo e) u (QRep.sv.2 hr) hd')
        | sst l=>obtain⟨vs,h1,h2,h3⟩:=hr; exact⟨vs,h1,qkl l vs h2 (qal l hd'),h3⟩
        | stu l=>obtain⟨vs,h1,h2⟩:=hr; exact⟨vs,h1,qkl l vs h2 (qal l hd')⟩
        | fnv f l=>obtain⟨vs,h1,h2⟩:=hr; exact⟨vs,h1,qkl l vs h2 (qal l hd')⟩
       have obr:∀ e o1,get s.h e=some o1->o1.ref d=false:=fun e o1 h1=>by
        have:=List.all_eq_true.1 hall _ (Tdm h1)
        simpa using this
       have grr:∀ e e' k l,get s.h e=some (.gr e' k l)->∀ r∈l.flatten,r.ref d=false:=fun e e' k l h1 r hr=>by
        obtain⟨c,hc,hrc⟩:=List.mem_flatten.1 hr
        have h2:=List.any_eq_false.1 (obr e _ h1) c hc
        exact qal c (by simpa using h2) r hrc
       have pnd:∀ l,lm0.pl=some l->d∉l:=fun l hl hd'=>by
        have:pinned s.h d=true:=by
         unfold pinned
         rw[(S.px l hl).1]
         simpa using hd'
        rw[hpn]at this
        simp at this
       refine⟨g',S.bas,S.size,S.defers,S.below,S.lm,fun m v' hm=> ?_,fun e o' he=> ?_,fun e o' he=> ?_,?_,fun e e' k l xs he hw=> ?_,fun v u hov=> ?_,S.pn,fun l hl=> ⟨?_,fun x hx=> ?_⟩,⟨S.fr.ex,S.fr.sz,S.fr.kf,fun b hb e o1 x he hl hi hbk=> ?_⟩⟩
       · have:=Tm0 (SV.ren d n) s.t m
         rw[this]at hm
         cases hm':get s.t m with
         | none=>rw[hm']at hm; simp at hm
         | some v0 =>
          rw[hm']at hm
          simp at hm
          subst hm
          obtain⟨u,hu,hr⟩:=S.tm m v0 hm'
          refine⟨u,hu,?_⟩
          cases hrd:v0.ref d with
          | false=>rw[SV.ren_no hrd]; exact sk v0 u hr hrd
          | true =>
           have hq:=List.all_eq_true.1 htl _ (Tdm hm')
           simp only[hrd,Bool.not_true,Bool.or_false]at hq
           cases v0 with
           | p x=>exact hr
           | xs k l=>exact hr
           | sst l=>simp[SV.id?]at hq
           | stu l=>simp[SV.id?]at hq
           | fnv f l=>simp[SV.id?]at hq
           | ms e off len =>
            have he:e=d:=by simpa[SV.ref]using hrd
            subst he
            simp only[SV.ren,if_true]
            simp only[SRep,ho]at hr
            simp only[SRep,hget,if_pos,gn]
            exact hr
           | mp e i j =>
            have he:e=d:=by simpa[SV.ref]using hrd
            subst he
            simp only[SV.ren,if_true]
            simp only[SRep,ho]at hr
            simp only[SRep,hget,if_pos,gn]
            exact hr
           | mo e =>
            have he:e=d:=by simpa[SV.ref]using hrd
            subst he
            simp only[SV.ren,if_true]
            simp only[SRep,ho]at hr
            simp only[SRep,hget,if_pos,gn]
            exact hr
       · rw[hget]at he
         split at he
         · rename_i hne
           subst hne
           obtain rfl:=oIj he
           have:=S.ob d o ho
           have gn:g'.v n=g.v d:=Tai _ _ _
           cases o with
           | row e' k fz l=>simp only[ORep,gn]at this ⊢; exact this
           | it st pos=>simp only[ORep,gn]at this ⊢; exact this
           | dp e' k l=>simp[Ob.isDp]at hdp
           | dead=>trivial
           | gr e' k l=>simp only[ORep,gn]at this ⊢; exact this
           | mpo U fl G F=>simp[Ob.isDp]at hdp
           | pin l=>trivial
         · rename_i hne
           split at he
           · simp at he
           · exact(S.ob e o' he).keep (fun x hi=>Tbc _ (hni e o' x he hi) _) (Ext.refl _ _) fun _ x hi b _=> ⟨rfl,rfl⟩
       · rw[hget]at he
         split at he
         · rename_i h; subst h; omega
         · split at he
           · simp at he
           · exact S.lt _ _ he
       · obtain⟨own,hap⟩:=S.ap
         refine⟨fun b=>if own b=d then n else own b,fun e o1 x b he hl hi hb=> ?_⟩
         dsimp only
         rw[hget]at he
         split at he
         · rename_i h
           subst h
           obtain rfl:=oIj he
           obtain rfl:=hi.plain hdp
           have gn:g'.v x=g.v d:=Tai _ _ _
           rw[gn]at hb
           exact if_pos (hap d o d b ho hl (.self _ _) hb)
         · rename_i h
           split at he
           · simp at he
           · rename_i h'
             have ge:g'.v x=g.v x:=Tbc _ (hni e o1 x he hi) _
             rw[ge]at hb
             have hx:=hap e o1 x b he hl hi hb
             have hxd:x≠d:=fun q=>by
              have:=hi.lt (by rw[q]; exact S.lt _ _ ho)
              exact h' (this.symm.trans q)
             rw[hx,if_neg hxd]
       · rw[hget]at he
         split at he
         · rename_i h
           subst h
           rw[oIj he]at ho
           rw[gn]at hw
           exact qkl _ _ (S.gs d e' k l xs ho hw) (grr d e' k l ho)
         · rename_i h
           split at he
           · simp at he
           · rw[gne e (Ne.symm h)]at hw
             exact qkl _ _ (S.gs e e' k l xs he hw) (grr e e' k l he)
       · refine sk v u (S.ov v u hov) ?_
         cases hrd:v.ref d with
         | false=>rfl
         | true =>
          obtain⟨l,hl,hd'⟩:=S.pn v u hov d hrd
          exact absurd hd' (pnd l hl)
       · have h9:d≠999999:=fun h=>by
          rw[h,(S.px l hl).1]at ho
          obtain rfl:=oIj ho
          simp[Ob.live]at hlv
         rw[hget,if_neg (by omega),if_neg (Ne.symm h9)]
         exact(S.px l hl).1
       · have hxd:x≠d:=fun h=>pnd l hl (h▸hx)
         refine((S.px l hl).2 x hx).imp id fun h=> ?_
         rw[hget]
         by_cases hnx:n=x
         · rw[if_pos hnx]; simp
         · rw[if_neg hnx,if_neg hxd]; exact h
       · rw[hget]at he
         split at he
         · rename_i h
           subst h
           obtain rfl:=oIj he
           obtain rfl:=hi.plain hdp
           have gn:g'.v x=g.v d:=Tai _ _ _
           rw[gn]at hbk
           exact S.fr.kd b hb d o d ho hlv (.self _ _) hbk
         · rename_i h
           split at he
           · simp at he
           · rw[show g'.v x=g.v x from Tbc _ (hni e o1 x he hi) _]at hbk
             exact S.fr.kd b hb e o1 x he hl hi hbk
theorem Sim.fz1 (S:Sim base w0 lm0 N g a w s)(n:Nat):∃ g',Sim base w0 lm0 N g' a w (AM.fz1 s n):=by
 unfold AM.fz1
 cases hv:get s.t n with
 | none=>exact⟨g,S⟩
 | some v =>
  dsimp only
  cases hf:AM.frz s.h v with
  | none=>exact⟨g,S⟩
  | some q =>
   obtain⟨y,fr⟩:=q
   obtain⟨u,hu,hr⟩:=S.tm n v hv
   obtain⟨lm',S1,r1,T1,F1⟩:=Tc0 S (fun d=>Fz.refl _) hr hf
   refine⟨⟨lm',g.v⟩,⟨S1.bas,S1.size,S1.defers,S1.below,S1.lm,fun m v' hm=> ?_,S1.ob,S1.lt,S1.ap,S1.gs,S1.ov,S1.pn,S1.px,S1.fr⟩⟩
   dsimp only at hm
   rw[Tbf]at hm
   split at hm
   · rename_i h
     subst h
     obtain rfl:=oIj hm
     exact⟨u,hu,r1⟩
   · exact S1.tm m v' hm
theorem Sim.fzs (S:Sim base w0 lm0 N g a w s):∀(l:List Nat),∃ g',Sim base w0 lm0 N g' a w (l.foldl AM.fz1 s):=by
 intro l
 induction l generalizing g s with
 | nil=>exact⟨g,S⟩
 | cons n l ih =>
  obtain⟨g',S'⟩:=S.fz1 n
  exact ih S'
theorem Sim.norm (S:Sim base w0 lm0 N g a w s)(keep:List Nat):∃ g',Sim base w0 lm0 N g' a w (AM.norm keep s):=by
 unfold AM.norm
 have:∀(l:List Nat) {g:Gs} {s:St},Sim base w0 lm0 N g a w s->∃ g',Sim base w0 lm0 N g' a w (l.foldl AM.ren1 s):=by
  intro l
  induction l with
  | nil=>intro g s S; exact⟨g,S⟩
  | cons n l ih =>
   intro g s S
   obtain⟨g',S'⟩:=S.ren1 n
   exact ih S'
 exact this keep (S.keepGc keep)
end
end Go.Proofs.YtjpibniecllafaaGreat.AM
end
section
namespace Go.Proofs.YtjpibniecllafaaGreat.AM
open Go Go.RowKit
theorem Thj {α:Type}:∀(l m:List (Nat×α)) (x:Nat),get (l++m) x= (get l x).orElse fun _=>get m x
 | [],m,x=>rfl
 | (d,o)::l,m,x=>by
  simp only[List.cons_append,get]
  split
  · rfl
  · exact Thj l m x
theorem Tom {h:List (Nat×Ob)}{f:Nat->Nat}:∀(l:List Nat) (x:Nat),(∀ d∈l,get h d≠none)->get (canP h f l) x=if x∈l then(get h x).map (·.mapr f)else none
 | [],x,_=>rfl
 | d ::l,x,hl=>by
  unfold canP
  rw[List.flatMap_cons,Thj]
  have ih:=Tom (f:=f) l x fun e he=>hl e (by simp[he])
  unfold canP at ih
  rw[ih]
  clear ih
  have hd:=hl d (by simp)
  cases ho:get h d with
  | none=>exact absurd ho hd
  | some o =>
   simp only[get]
   by_cases hx:d=x
   · subst hx; simp[ho]
   · rw[if_neg hx]
     have:x≠d:=fun e=>hx e.symm
     simp[this]
section
variable {P:Program}{base:Nat}{w0:World}{lm0:L0}{N:Nat}{g:Gs}{a:Act}{w:World}{s:St}{o:Oper}
theorem Sim.canon (S:Sim base w0 lm0 N g a w s):∃ g',Sim base w0 lm0 N g' a w (AM.canon s):=by
 unfold AM.canon
 generalize hp:pinsOf s.h=pins
 cases hR:reach s.h 300 (pins++s.t.flatMap fun q=>q.2.refs) []with
 | none=>exact⟨g,S⟩
 | some R =>
  dsimp only
  by_cases hc:R.take pins.length=pins/\ (pins.all fun d=>decide (d<1000))=true
  case neg=>rw[if_neg hc]; exact⟨g,S⟩
  rw[if_pos hc]
  obtain⟨hc1,hc2⟩:=hc
  obtain⟨hRn,hRt,hRx,hRc⟩:=Tbv hR
  have hRl:=Te8 hR
  generalize hD:R.drop pins.length=D
  have hRD:R=pins++D:=by rw[← hD,← List.take_append_drop pins.length R,hc1]; simp
  have hDl:D.length<=300:=by rw[hRD]at hRl; simp at hRl; omega
  have hpl:∀ d∈pins,d<1000:=fun d hd=>by simpa using List.all_eq_true.1 hc2 d hd
  have hnd: (pins++D).Nodup:=hRD▸hRn
  obtain⟨n1,n2,n3⟩:=List.nodup_append.1 hnd
  have hex:∀ d∈R,get s.h d≠none:=fun d hd=>by obtain⟨o,q,_⟩:=hRx d hd; rw[q]; simp
  have hpe:∀ d∈pins,get s.h d≠none:=fun d hd=>hex d (by rw[hRD]; simp[hd])
  have hDe:∀ d∈D,get s.h d≠none:=fun d hd=>hex d (by rw[hRD]; simp[hd])
  let f:Nat->Nat:=canF pins D
  let u:Nat->Nat:=fun x=>if x<1000 then x else if x=999999 then 999999 else at0 D (x-1000)
  show ∃ g',Sim base w0 lm0 N g' a w ⟨s.t.map fun q=> (q.1,q.2.mapr f),canP s.h f pins++subH s.h f D 1000++pinOb s.h⟩
  generalize hH:canP s.h f pins++subH s.h f D 1000++pinOb s.h=H
  have hpz:∀ x,get (pinOb s.h) x=if x=999999 then(match get s.h 999999 with | some (.pin l)=>some (.pin l) | _=>none)else none:=fun x=>by
   unfold pinOb
   split
   · rename_i l hl
     simp only[get]
     by_cases hx:x=999999
     · rw[if_pos hx,if_pos hx.symm,hl]
     · rw[if_neg hx,if_neg fun e=>hx e.symm]
   · rename_i hl
     by_cases hx:x=999999
     · rw[if_pos hx]
       split
       · rename_i l hl2; exact absurd hl2 (hl l)
       · rfl
     · rw[if_neg hx]; rfl
  have hg:∀ x,get H x=if x∈pins then(get s.h x).map (·.mapr f)else if 1000<=x/\x<1000+D.length then(get s.h (at0 D (x-1000))).map (·.mapr f)else if x=999999 then(match get s.h 999999 with | some (.pin l)=>some (.pin l) | _=>none)else none:=fun x=>by
   rw[← hH,Thj,Thj,Tom pins x hpe,Tcx hDe,hpz]
   by_cases h1:x∈pins
   · have:=hpl x h1
     have h2:=hpe x h1
     rw[if_pos h1,if_pos h1]
     cases ho:get s.h x with
     | none=>exact absurd ho h2
     | some o=>rfl
   · rw[if_neg h1,if_neg h1]
     by_cases h2:1000<=x/\x<1000+D.length
     · rw[if_pos h2,if_pos h2]
       have h3:=hDe _ (Ta7 (R:=D) (i:=x-1000) (by omega))
       cases ho:get s.h (at0 D (x-1000))with
       | none=>exact absurd ho h3
       | some o=>rfl
     · rw[if_neg h2,if_neg h2]; rfl
  have h9:∀ l,get s.h 999999=some (.pin l)-> (999999:Nat)∉R:=fun l hl hm=>by
   obtain⟨o,q1,q2⟩:=hRx _ hm
   rw[hl]at q1
   rw[← oIj q1]at q2
   simp[Ob.noPin]at q2
  have hin:∀ e∈R,get H (f e)≠none/\u (f e)=e:=fun e he=>by
   by_cases h1:e∈pins
   · have hfe:f e=e:=if_pos (by simpa using h1)
     have:=hpl e h1
     rw[hfe,hg,if_pos h1]
     refine⟨fun h=>hpe e h1 (by simpa using h),if_pos this⟩
   · have h2:e∈D:=by rw[hRD]at he; simpa[h1]using he
     have hfe:f e=1000+pos D e:=if_neg (by simpa using h1)
     obtain⟨q1,q2⟩:=Tep h2
     have hnp:1000+pos D e∉pins:=fun h=>by have:=hpl _ h; omega
     rw[hfe,hg,if_neg hnp,if_pos (by omega),Nat.add_sub_cancel_left,q2]
     refine⟨fun h=>hDe e h2 (by simpa using h),?_⟩
     show(if _ then _ else if _ then _ else _)=e
     rw[if_neg (by omega),if_neg (by omega),Nat.add_sub_cancel_left,q2]
  have ren:Ren s.h H u f:=by
   have cases3:∀ d,get H d≠none-> (d∈pins/\u d=d)∨ (1000<=d/\d<1000+D.length/\u d=at0 D (d-1000))∨ (d=999999/\u d=999999/\∃ l,get s.h 999999=some (.pin l)):=fun d hd=>by
    rw[hg]at hd
    split at hd
    · rename_i h1; exact .inl ⟨h1,if_pos (hpl d h1)⟩
    · split at hd
      · rename_i h1 h2
        refine .inr (.inl ⟨h2.1,h2.2,?_⟩)
        show(if _ then _ else if _ then _ else _)=_
        rw[if_neg (by omega),if_neg (by omega)]
      · split at hd
        · rename_i h3
          refine .inr (.inr ⟨h3,?_,?_⟩)
          · show(if _ then _ else if _ then _ else _)=_
            rw[if_neg (by omega),if_pos h3]
          · split at hd
            · rename_i l hl; exact⟨l,hl⟩
            · exact absurd rfl hd
        · exact absurd rfl hd
   refine⟨fun d o hd=> ?_,fun d d' h1 h2 he=> ?_,fun d o1 hd ho e he=> ?_⟩
   · rcases cases3 d (by rw[hd]; simp)with⟨q1,q2⟩ | ⟨q1,q2,q3⟩ | ⟨q1,q2,l,q3⟩
     · have:=hpl d q1
       rw[hg,if_pos q1]at hd
       refine⟨by omega,?_⟩
       rw[q2]
       cases ho:get s.h d with
       | none=>rw[ho]at hd; simp at hd
       | some o1=>rw[ho]at hd; exact⟨o1,rfl,(oIj hd).symm⟩
     · have hnp:d∉pins:=fun h=>by have:=hpl _ h; omega
       rw[hg,if_neg hnp,if_pos ⟨q1,q2⟩]at hd
       refine⟨by omega,?_⟩
       rw[q3]
       cases ho:get s.h (at0 D (d-1000))with
       | none=>rw[ho]at hd; simp at hd
       | some o1=>rw[ho]at hd; exact⟨o1,rfl,(oIj hd).symm⟩
     · have hnp:d∉pins:=fun h=>by have:=hpl _ h; omega
       rw[hg,if_neg hnp,if_neg (by omega),if_pos q1,q3]at hd
       refine⟨by omega,.pin l,by rw[q2]; exact q3,(oIj hd).symm⟩
   · rcases cases3 d h1 with⟨q1,q2⟩ | ⟨q1,q2,q3⟩ | ⟨q1,q2,l,q3⟩
     · rcases cases3 d' h2 with⟨r1,r2⟩ | ⟨r1,r2,r3⟩ | ⟨r1,r2,l',r3⟩
       · rw[q2,r2]at he; exact he
       · exfalso
         rw[q2,r3]at he
         exact n3 d q1 _ (Ta7 (R:=D) (i:=d'-1000) (by omega)) he
       · have:=hpl d q1; rw[q2,r2]at he; omega
     · rcases cases3 d' h2 with⟨r1,r2⟩ | ⟨r1,r2,r3⟩ | ⟨r1,r2,l',r3⟩
       · exfalso
         rw[q3,r2]at he
         exact n3 d' r1 _ (Ta7 (R:=D) (i:=d-1000) (by omega)) he.symm
       · rw[q3,r3]at he
         have e1:=Tb6 n2 (i:=d-1000) (by omega)
         have e2:=Tb6 n2 (i:=d'-1000) (by omega)
         rw[he]at e1
         omega
       · exfalso
         rw[q3,r2]at he
         exact h9 l' r3 (by rw[hRD,← he]; exact List.mem_append.2 (.inr (Ta7 (by omega))))
     · rcases cases3 d' h2 with⟨r1,r2⟩ | ⟨r1,r2,r3⟩ | ⟨r1,r2,l',r3⟩
       · have:=hpl d' r1; rw[q2,r2]at he; omega
       · exfalso
         rw[q2,r3]at he
         exact h9 l q3 (by rw[hRD,he]; exact List.mem_append.2 (.inr (Ta7 (by omega))))
       · omega
   · rcases cases3 d hd with⟨q1,q2⟩ | ⟨q1,q2,q3⟩ | ⟨q1,q2,l,q3⟩
     · rw[q2]at ho
       exact hin e (hRc d (by rw[hRD]; simp[q1]) o1 ho e (Ob.mem_refs.2 he))
     · rw[q3]at ho
       exact hin e (hRc _ (by rw[hRD]; exact List.mem_append.2 (.inr (Ta7 (by omega)))) o1 ho e (Ob.mem_refs.2 he))
     · rw[q2,q3]at ho
       rw[← oIj ho]at he
       simp[Ob.ref]at he
  have H2:=S.hs.ren ren
  refine⟨⟨g.lm,fun x=>g.v (lift u x)⟩,S.bas,S.size,S.defers,S.below,S.lm,fun n v hn=> ?_,H2.ob,H2.lt,H2.ap,H2.gs,fun v z hz=> ?_,S.pn,fun l hl=> ?_,⟨S.fr.ex,S.fr.sz,S.fr.kf,fun b hb=>ren.free (S.fr.kd b hb)⟩⟩
  · have h1:=Tm0 (SV.mapr f) s.t n
    rw[h1]at hn
    cases hn':get s.t n with
    | none=>rw[hn']at hn; simp at hn
    | some v0 =>
     rw[hn']at hn
     simp at hn
     subst hn
     obtain⟨z,hz,hr⟩:=S.tm n v0 hn'
     refine⟨z,hz,ren.srep (fun e he=>hin e (hRt e ?_)) hr⟩
     rw[List.mem_append]
     exact .inr (List.mem_flatMap.2 ⟨(n,v0),Tdm hn',SV.mem_refs.2 he⟩)
  · have hr:=S.ov v z hz
    have hpv:∀ e,v.ref e=true->e∈pins:=fun e he=>by
     obtain⟨l,hl,hd⟩:=S.pn v z hz e he
     have h9:= (S.px l hl).1
     rw[← hp]
     unfold pinsOf
     rw[h9]
     exact hd
    have:=ren.srep (w:=w) (fun e he=>hin e (by rw[hRD]; simp[hpv e he])) hr
    have e0:SV.mapr f v=v:=SV.mapr_id fun e he=>by
     show canF pins D e=e
     unfold canF
     rw[if_pos (by simpa using hpv e he)]
    rw[e0]at this
    exact this
  · obtain⟨q1,q2⟩:=S.px l hl
    have hpp:pins=l:=by rw[← hp]; unfold pinsOf; rw[q1]
    refine⟨?_,fun d hd=> ?_⟩
    · have hnp: (999999:Nat)∉pins:=fun h=>by have:=hpl _ h; omega
      show get H 999999=_
      rw[hg,if_neg hnp,if_neg (by omega),if_pos rfl,q1]
    · right
      have hd':d∈pins:=by rw[hpp]; exact hd
      show get H d≠none
      rw[hg,if_pos hd']
      intro h
      exact hpe d hd' (by simpa using h)
end
end Go.Proofs.YtjpibniecllafaaGreat.AM
end
section
namespace Go.Proofs.YtjpibniecllafaaGreat.AM
open Go Go.RowKit
def AOp.xs:AOp->List X
 | .mv x=> [x]
 | .nl _ _=> []
 | .pick c a b=> [c,a,b]
 | .box _ _ x=> [x]
 | .alloc _ _ _=> []
 | .boxp _ _ x=> [x]
 | .alcp _ _ _=> []
 | .bld _ ps=>ps.map fun q=>q.2.2
 | .bsl _ _ _ ps=>ps.map fun q=>q.2
 | .iap _ x i=> [x,i]
 | .ldp1 x=> [x]
 | .ldpk _ x=> [x]
 | .mvp x=> [x]
 | .ld1 x=> [x]
 | .ldk _ x=> [x]
 | .sto _ a x=> [a,x]
 | .s1 _ x=> [x]
 | .s2 _ x y=> [x,y]
 | .eqst _ _ x y=> [x,y]
 | .nck x=> [x]
 | .apps _ _ x y=> [x,y]
 | .mki _ x=> [x]
 | .inv _ _ _ x l=>x::l
 | .fld1 x _=> [x]
 | .fldk x _ _=> [x]
 | .ixa _ _ x i=> [x,i]
 | .bldp _ ps=>ps.map fun q=>q.2.2
 | .bslp _ _ _ ps=>ps.map fun q=>q.2
 | .fa x _=> [x]
 | .ia _ x i=> [x,i]
 | .aa _ _ x i=> [x,i]
 | .mkf _ cs=>cs
 | .mks _ _ _ _ l c=> [l,c]
 | .slc _ x lo hi mx=>x:: (lo.toList++hi.toList++mx.toList)
 | .sls x lo hi=>x:: (lo.toList++hi.toList)
 | .len x=> [x]
 | .lens x=> [x]
 | .app _ _ _ x y=> [x,y]
 | .cpy _ x y=> [x,y]
 | .mm _ l=>l
 | .rng x=> [x]
 | .nxt x=> [x]
 | .ext x _=> [x]
 | .cl _ l=>l
 | .cv x l=>x::l
 | .b2s x=> [x]
 | .cpyd _ x y=> [x,y]
 | .cpyo _ x y=> [x,y]
 | .iad _ x i=> [x,i]
 | .fad x _=> [x]
 | .ld1d x=> [x]
 | .ld1o x=> [x]
 | .sto1o a x=> [a,x]
 | .stod a x=> [a,x]
 | .lend x=> [x]
 | .mvs x y=> [x,y]
 | .cld _ l=>l
 | .sbn _ _=> []
 | .sbw _ x y=> [x,y]
 | .sbs _ x=> [x]
 | .inl _ l=>l
 | .cvs x l=>x::l
 | .mkr _ l=>l
 | .exr x _=> [x]
 | .nlq _ x=> [x]
 | .bldr _ ps=>ps.map fun q=>q.2.2
 | .boxr _ _ x=> [x]
 | .ldr x=> [x]
 | .ldkr _ x=> [x]
 | .stor _ a x=> [a,x]
 | .far x _=> [x]
 | .aar _ x i=> [x,i]
 | .ix1 _ x i=> [x,i]
 | .alr _ _ _=> []
 | .storf _ a x=> [a,x]
 | .bldrf _ ps=>ps.map fun q=>q.2.2
 | .nkr x=> [x]
 | .ldrn _ _ x=> [x]
 | .ldkf _ x=> [x]
 | .inn _ l=>l
 | .inq _ l=>l
def AOp.bare:AOp->Bool
 | .mv .. | .pick .. | .s1 .. | .eqst .. | .fld1 .. | .ixa .. | .ix1 .. | .bldp .. | .bslp .. | .fldk .. | .sls .. | .lens .. | .ext .. | .iap .. | .ldp1 .. | .ldpk .. =>true
 | .s2 o _ _=>match o with | .peq _=>false | _=>true
 | _=>false
section
variable {s s':St}
theorem Tas:∀ {l:List X},(∀ x∈l,x.ev s=x.ev s')->evs s l=evs s' l
 | [],_=>rfl
 | x::l,h=>by
  simp only[evs]
  rw[h x (by simp),Tas fun y hy=>h y (by simp[hy])]
theorem Tcp:∀ {l:List X},(∀ x∈l,x.ev s=x.ev s')->evp s l=evp s' l
 | [],_=>rfl
 | x::l,h=>by
  simp only[evp]
  rw[h x (by simp),Tcp fun y hy=>h y (by simp[hy])]
theorem Ta4 {d:Nat}{x:Option X}(h:∀ y∈x.toList,y.ev s=y.ev s'):natOr s d x=natOr s' d x:=by
 cases x with
 | none=>rfl
 | some x=>simp only[natOr]; rw[h x (by simp)]
theorem Tcq {h h':List (Nat×Ob)}(e:∀ d,get h d=get h' d)(v:SV):frz h v=frz h' v:=by
 cases v<;> simp only[frz,e]
theorem Tbq {h h':List (Nat×Ob)}(e:∀ d,get h d=get h' d):∀ vs:List SV,frzs h vs=frzs h' vs
 | []=>rfl
 | v::vs=>by simp only[frzs,Tcq e,Tbq e vs]
theorem Tge {h h':List (Nat×Ob)}(e:∀ d,get h d=get h' d):∀ n d,newIdN h n d=newIdN h' n d
 | 0,_=>rfl
 | n+1,d=>by simp only[newIdN,e,Tge e n]
theorem Tax {h h':List (Nat×Ob)}(e:∀ d,get h d=get h' d)(d:Nat):newId h d=newId h' d:=by simp only[newId,Tge e]
theorem Tdn {h h':List (Nat×Ob)}(e:∀ d,get h d=get h' d)(v:SV):elems h v=elems h' v:=by
 cases v<;> simp only[elems,e]
theorem Thk {h h':List (Nat×Ob)}(e:∀ d,get h d=get h' d)(v:SV):svLen h v=svLen h' v:=by
 cases v<;> simp only[svLen,e]
theorem Tm1 {h h':List (Nat×Ob)}(e:∀ d,get h d=get h' d)(fr:List (Nat×Ob))(d:Nat)(r:Ret):ret1d h fr d r=ret1d h' fr d r:=by
 cases r<;> simp only[ret1d,Tax e]
theorem Tft {h h':List (Nat×Ob)}(e:∀ d,get h d=get h' d)(fr:List (Nat×Ob))(d:Nat)(r:Ret):ret1 h fr d r=ret1 h' fr d r:=by
 cases r<;> simp only[ret1,Tax e]
theorem Thl (call:Call)(d:Nat)(o:AOp)(hx:∀ x∈o.xs,x.ev s=x.ev s')(e0:s.h=s'.h):eff call s d o=eff call s' d o:=by
 have e:∀ d,get s.h d=get s'.h d:=fun d=>by rw[e0]
 cases o
 case inl f l =>
  have h1:evs s l=evs s' l:=Tas hx
  simp only[eff,h1,inlE,e0]
 case cvs x l =>
  have h1:evs s l=evs s' l:=Tas fun y hy=>hx y (by simp[AOp.xs,hy])
  have h2:x.ev s=x.ev s':=hx x (by simp[AOp.xs])
  simp only[eff,h1,h2,inlE,e0]
 case mkr f cs =>
  have h1:evs s cs=evs s' cs:=Tas hx
  simp only[eff,h1]
 case bldr z ps =>
  have h1:evs s (ps.map fun q=>q.2.2)=evs s' (ps.map fun q=>q.2.2):=Tas hx
  simp only[eff,h1,e0]
 case exr x i=>simp only[eff,hx x (by simp[AOp.xs]),e0]
 case nlq ne x=>simp only[eff,hx x (by simp[AOp.xs]),e0]
 case boxr e1 k x=>simp only[eff,hx x (by simp[AOp.xs]),e0]
 case ldr x=>simp only[eff,hx x (by simp[AOp.xs]),e0]
 case ldkr k x=>simp only[eff,hx x (by simp[AOp.xs]),e0]
 case stor k a x=>simp only[eff,hx a (by simp[AOp.xs]),hx x (by simp[AOp.xs]),e0]
 case far x off=>simp only[eff,hx x (by simp[AOp.xs]),e0]
 case aar m x i=>simp only[eff,hx x (by simp[AOp.xs]),hx i (by simp[AOp.xs]),e0]
 case ix1 m x i=>simp only[eff,hx x (by simp[AOp.xs]),hx i (by simp[AOp.xs])]
 case alr e1 k c=>simp only[eff,e0]
 case storf k a x=>simp only[eff,hx a (by simp[AOp.xs]),hx x (by simp[AOp.xs]),e0]
 case nkr x=>simp only[eff,hx x (by simp[AOp.xs]),e0]
 case ldrn e1 k x=>simp only[eff,hx x (by simp[AOp.xs]),e0]
 case ldkf ks x=>simp only[eff,hx x (by simp[AOp.xs]),e0]
 case bldrf z ps =>
  have h1:evs s (ps.map fun q=>q.2.2)=evs s' (ps.map fun q=>q.2.2):=Tas hx
  simp only[eff,h1,e0]
 case inn f l =>
  have h1:evs s l=evs s' l:=Tas hx
  simp only[eff,h1,innE,e0]
 case inq f l =>
  have h1:evs s l=evs s' l:=Tas hx
  simp only[eff,h1,innE,e0]
 case bld z ps =>
  have h1:evs s (ps.map fun q=>q.2.2)=evs s' (ps.map fun q=>q.2.2):=Tas hx
  simp only[eff,Tbq e,h1]
 case bldp z ps =>
  have h1:evp s (ps.map fun q=>q.2.2)=evp s' (ps.map fun q=>q.2.2):=Tcp hx
  simp only[eff,h1]
 case bslp a b z ps =>
  have h1:evp s (ps.map fun q=>q.2)=evp s' (ps.map fun q=>q.2):=Tcp hx
  simp only[eff,h1]
 case bsl a b z ps =>
  have h1:evs s (ps.map fun q=>q.2)=evs s' (ps.map fun q=>q.2):=Tas hx
  simp only[eff,Tbq e,h1,Tax e]
 case mkf f cs =>
  have h1:evs s cs=evs s' cs:=Tas hx
  simp only[eff,Tbq e,h1]
 case mm mx l =>
  have h1:evs s l=evs s' l:=Tas hx
  simp only[eff,Tbq e,h1]
 case cl f l =>
  have h1:evs s l=evs s' l:=Tas hx
  simp only[eff,Tbq e,h1,Tft e]
 case cld f l =>
  have h1:evs s l=evs s' l:=Tas hx
  simp only[eff,Tbq e,h1,Tm1 e]
 case cpyd k x y=>simp only[eff,hx x (by simp[AOp.xs]),hx y (by simp[AOp.xs]),e,Tdn e]
 case cpyo k x y=>simp only[eff,hx x (by simp[AOp.xs]),hx y (by simp[AOp.xs]),e]
 case iad k x i=>simp only[eff,hx x (by simp[AOp.xs]),hx i (by simp[AOp.xs]),e]
 case fad x n=>simp only[eff,hx x (by simp[AOp.xs]),e]
 case ld1d x=>simp only[eff,hx x (by simp[AOp.xs]),e]
 case ld1o x=>simp only[eff,hx x (by simp[AOp.xs]),e,Tax e]
 case sto1o a x=>simp only[eff,hx a (by simp[AOp.xs]),hx x (by simp[AOp.xs]),e]
 case sbn T e1=>simp only[eff,Tax e]
 case sbw f x y=>simp only[eff,sbwE,hx x (by simp[AOp.xs]),hx y (by simp[AOp.xs]),e]
 case sbs f x=>simp only[eff,sbsE,hx x (by simp[AOp.xs]),e]
 case stod a x=>simp only[eff,hx a (by simp[AOp.xs]),hx x (by simp[AOp.xs]),e]
 case lend x=>simp only[eff,hx x (by simp[AOp.xs]),e]
 case mvs x y=>simp only[eff,hx x (by simp[AOp.xs]),hx y (by simp[AOp.xs]),e]
 case cv x l =>
  have h1:evs s l=evs s' l:=Tas fun y hy=>hx y (by simp[AOp.xs,hy])
  simp only[eff,Tbq e,hx x (by simp[AOp.xs]),h1,Tft e]
 case inv t f m x l =>
  have h1:evs s l=evs s' l:=Tas fun y hy=>hx y (by simp[AOp.xs,hy])
  simp only[eff,Tbq e,hx x (by simp[AOp.xs]),h1,Tft e]
 case slc k x lo hi mx =>
  have h1:=hx x (by simp[AOp.xs])
  have h2:natOr s 0 lo=natOr s' 0 lo:=Ta4 fun y hy=>hx y (by simp only[AOp.xs,List.mem_cons,List.mem_append]; exact .inr (.inl (.inl hy)))
  have h3:∀ n,natOr s n hi=natOr s' n hi:=fun n=>Ta4 fun y hy=>hx y (by simp only[AOp.xs,List.mem_cons,List.mem_append]; exact .inr (.inl (.inr hy)))
  have h4:∀ m,mx=some m->natOr s 0 (some m)=natOr s' 0 (some m):=fun m hm=>Ta4 fun y hy=>hx y (by simp only[AOp.xs,List.mem_cons,List.mem_append]; exact .inr (.inr (by rw[hm]; exact hy)))
  simp only[eff,h1,h2,h3,Thk e,Tcq e,e]
  cases mx with
  | none=>rfl
  | some m=>simp only[h4 m rfl]
 case sls x lo hi =>
  have h1:=hx x (by simp[AOp.xs])
  have h2:natOr s 0 lo=natOr s' 0 lo:=Ta4 fun y hy=>hx y (by simp only[AOp.xs,List.mem_cons,List.mem_append]; exact .inr (.inl hy))
  have h3:∀ n,natOr s n hi=natOr s' n hi:=fun n=>Ta4 fun y hy=>hx y (by simp only[AOp.xs,List.mem_cons,List.mem_append]; exact .inr (.inr hy))
  simp only[eff,h1,h2,h3]
 case pick c a b=>simp only[eff,hx c (by simp[AOp.xs]),hx a (by simp[AOp.xs]),hx b (by simp[AOp.xs])]
 case nl a b=>simp only[eff,Tax e]
 case alloc a b c=>simp only[eff,Tax e]
 case alcp a b c=>simp only[eff,Tax e]
 case boxp a b x=>simp only[eff,hx x (by simp[AOp.xs]),Tcq e,Tax e]
 case sto k a x=>simp only[eff,hx a (by simp[AOp.xs]),hx x (by simp[AOp.xs]),Tcq e,e]
 case s2 o x y=>simp only[eff,hx x (by simp[AOp.xs]),hx y (by simp[AOp.xs]),e]
 case eqst n ks x y=>simp only[eff,hx x (by simp[AOp.xs]),hx y (by simp[AOp.xs])]
 case apps a b x y=>simp only[eff,hx x (by simp[AOp.xs]),hx y (by simp[AOp.xs]),e,Tax e]
 case app a b c x y=>simp only[eff,hx x (by simp[AOp.xs]),hx y (by simp[AOp.xs]),e,Tax e,Tdn e]
 case cpy k x y=>simp only[eff,hx x (by simp[AOp.xs]),hx y (by simp[AOp.xs]),e,Tdn e]
 case ia k x i=>simp only[eff,hx x (by simp[AOp.xs]),hx i (by simp[AOp.xs]),e]
 case aa k m x i=>simp only[eff,hx x (by simp[AOp.xs]),hx i (by simp[AOp.xs]),e]
 case mks a b c z x y=>simp only[eff,hx x (by simp[AOp.xs]),hx y (by simp[AOp.xs]),Tax e]
 case box a b x=>simp only[eff,hx x (by simp[AOp.xs]),Tcq e,Tax e]
 case ldk k x=>simp only[eff,hx x (by simp[AOp.xs]),e]
 case s1 o x=>simp only[eff,hx x (by simp[AOp.xs])]
 case mki t x=>simp only[eff,hx x (by simp[AOp.xs]),Tcq e]
 case fld1 x n=>simp only[eff,hx x (by simp[AOp.xs])]
 case ixa k m x i=>simp only[eff,hx x (by simp[AOp.xs]),hx i (by simp[AOp.xs])]
 case fldk x n m=>simp only[eff,hx x (by simp[AOp.xs])]
 case fa x n=>simp only[eff,hx x (by simp[AOp.xs]),e]
 case ext x n=>simp only[eff,hx x (by simp[AOp.xs])]
 case mv x=>simp only[eff,hx x (by simp[AOp.xs])]
 case iap k x i=>simp only[eff,hx x (by simp[AOp.xs]),hx i (by simp[AOp.xs])]
 case ldp1 x=>simp only[eff,hx x (by simp[AOp.xs])]
 case ldpk k x=>simp only[eff,hx x (by simp[AOp.xs])]
 case mvp x=>simp only[eff,hx x (by simp[AOp.xs]),Tcq e]
 case ld1 x=>simp only[eff,hx x (by simp[AOp.xs]),e]
 case nck x=>simp only[eff,hx x (by simp[AOp.xs]),e]
 case len x=>simp only[eff,hx x (by simp[AOp.xs]),Thk e]
 case lens x=>simp only[eff,hx x (by simp[AOp.xs])]
 case rng x=>simp only[eff,hx x (by simp[AOp.xs]),Tax e]
 case nxt x=>simp only[eff,hx x (by simp[AOp.xs]),e]
 case b2s x=>simp only[eff,hx x (by simp[AOp.xs]),Tdn e]
end
end Go.Proofs.YtjpibniecllafaaGreat.AM
end
section
namespace Go.Proofs.YtjpibniecllafaaGreat.AM
open Go Go.RowKit
theorem Fz.two {a b:Option Ob}(h:Fz a b): (∃ e k fz fz' l,a=some (.row e k fz l)/\b=some (.row e k fz' l))∨a=b/\True:=by
 cases a with
 | none=>right; cases b with
  | none=>exact⟨rfl,trivial⟩
  | some y=>simp[Fz]at h
 | some x =>
  cases x with
  | row e k fz l =>
   obtain⟨fz',hb⟩:=h.row
   exact .inl ⟨e,k,fz,fz',l,rfl,hb⟩
  | _=>right; cases b with
   | none=>simp[Fz]at h
   | some y=>cases y<;> simp_all [Fz]
def FzV (h h':List (Nat×Ob))(v:SV):Prop:=∀ d,v.id?=some d->Fz (get h d) (get h' d)
theorem Ti5 {h h':List (Nat×Ob)}{v:SV}(hf:FzV h h' v):frz h v=frz h' v:=by
 cases v with
 | p x=>rfl
 | xs k l=>rfl
 | ms d off len=>rcases(hf d rfl).two with⟨e,k,fz,fz',l,h1,h2⟩ | ⟨h1,h2⟩<;> simp only[frz,h1,h2]
 | mp d i j=>rcases(hf d rfl).two with⟨e,k,fz,fz',l,h1,h2⟩ | ⟨h1,h2⟩<;> simp only[frz,h1,h2]
 | mo d=>rfl
 | sst l=>rfl
 | stu l=>rfl
 | fnv f l=>rfl
theorem Txc {h h':List (Nat×Ob)}{v:SV}(hf:FzV h h' v):elems h v=elems h' v:=by
 cases v with
 | p x=>cases x<;> rfl
 | xs k l=>rfl
 | ms d off len=>rcases(hf d rfl).two with⟨e,k,fz,fz',l,h1,h2⟩ | ⟨h1,h2⟩<;> simp only[elems,h1,h2]
 | mp d i j=>rfl
 | mo d=>rfl
 | sst l=>rfl
 | stu l=>rfl
 | fnv f l=>rfl
theorem Ton {h h':List (Nat×Ob)}{v:SV}(hf:FzV h h' v):svLen h v=svLen h' v:=by
 cases v with
 | p x=>cases x<;> rfl
 | xs k l=>rfl
 | ms d off len=>rcases(hf d rfl).two with⟨e,k,fz,fz',l,h1,h2⟩ | ⟨h1,h2⟩<;> simp only[svLen,h1,h2]
 | mp d i j=>rfl
 | mo d=>rfl
 | sst l=>rfl
 | stu l=>rfl
 | fnv f l=>rfl
theorem Tta {h h':List (Nat×Ob)}:∀ {vs:List SV},(∀ v∈vs,FzV h h' v)->frzs h vs=frzs h' vs
 | [],_=>rfl
 | v::vs,hf=>by
  have e:frzs h vs=frzs h' vs:=Tta fun u hu=>hf u (by simp[hu])
  simp only[frzs,Ti5 (hf v (by simp)),e]
theorem Tfu {h h':List (Nat×Ob)}:∀(n d:Nat),(∀ j,j<n-> (get h (d+j*100000)=none↔get h' (d+j*100000)=none))->newIdN h n d=newIdN h' n d
 | 0,_,_=>rfl
 | n+1,d,hj=>by
  have h0:=hj 0 (by omega)
  rw[Nat.zero_mul,Nat.add_zero]at h0
  have ih:=Tfu (h:=h) (h':=h') n (d+100000) fun j hlt=>by
   have:=hj (j+1) (by omega)
   rw[show d+ (j+1)*100000=d+100000+j*100000 by omega]at this
   exact this
  unfold newIdN
  cases e1:get h d with
  | none=>rw[h0.1 e1]
  | some x =>
   cases e1':get h' d with
   | none=>rw[h0.2 e1']at e1; simp at e1
   | some x'=>exact ih
theorem Tlk {h h':List (Nat×Ob)}{d:Nat}(h1:∀ j,j<8-> (get h (d+j*100000)=none↔get h' (d+j*100000)=none)):newId h d=newId h' d:=by
 unfold newId
 rw[Tfu 8 d h1]
section
variable {s s':St}
theorem Tm2:∀ {l:List X} {vs:List SV},evs s l=some vs->∀ v∈vs,∃ x∈l,x.ev s=some v
 | [],vs,h,v,hv=>by simp only[evs,oIE]at h; subst h; simp at hv
 | x::l,vs,h,v,hv=>by
  simp only[evs]at h
  cases h1:x.ev s with
  | none=>rw[h1]at h; simp at h
  | some u =>
   rw[h1]at h; dsimp only at h
   cases h2:evs s l with
   | none=>rw[h2]at h; simp at h
   | some us =>
    rw[h2]at h
    obtain rfl:=oIj h
    rcases List.mem_cons.1 hv with rfl | hv
    · exact⟨x,by simp,h1⟩
    · obtain⟨y,hy,e⟩:=Tm2 h2 v hv
      exact⟨y,by simp[hy],e⟩
theorem Tgn (call:Call) (d:Nat) (o:AOp) (ho:o.hard=false) (hx:∀ x∈o.xs,x.ev s=x.ev s') (hf:∀ x∈o.xs,∀ v,x.ev s=some v->FzV s.h s'.h v) (h1:∀ j,j<8-> (get s.h (d+j*100000)=none↔get s'.h (d+j*100000)=none)):eff call s d o=eff call s' d o:=by
 have hn:=Tlk h1
 have hr:∀ fr r,ret1 s.h fr d r=ret1 s'.h fr d r:=fun fr r=>by cases r<;> simp only[ret1,hn]
 have evsf:∀ {l:List X},(∀ x∈l,x∈o.xs)->evs s l=evs s' l/\∀ vs,evs s' l=some vs->AM.frzs s.h vs=AM.frzs s'.h vs:=by
  intro l hl
  have e:=Tas (s:=s) (s':=s') fun x hm=>hx x (hl x hm)
  refine⟨e,fun vs hvs=>Tta fun v hv=> ?_⟩
  rw[← e]at hvs
  obtain⟨x,hm,hxv⟩:=Tm2 hvs v hv
  exact hf x (hl x hm) v hxv
 have one:∀ x∈o.xs,x.ev s=x.ev s'/\∀ v,x.ev s'=some v->FzV s.h s'.h v:=fun x hm=> ⟨hx x hm,fun v hv=>hf x hm v (by rw[hx x hm]; exact hv)⟩
 cases o
 case mkr f cs =>
  have e1:= (evsf (l:= (AOp.mkr f cs).xs) (fun x h=>h)).1
  simp only[AOp.xs]at e1
  simp only[eff,e1]
 case ix1 m x i=>simp only[eff,hx x (by simp[AOp.xs]),hx i (by simp[AOp.xs])]
 case bld z ps =>
  obtain⟨e1,e2⟩:=evsf (l:= (AOp.bld z ps).xs) (fun x h=>h)
  simp only[AOp.xs]at e1 e2
  simp only[eff,e1]
  cases hv:evs s' (ps.map fun q=>q.2.2)with
  | none=>rfl
  | some vs=>simp only[e2 vs hv]
 case bsl a b z ps =>
  obtain⟨e1,e2⟩:=evsf (l:= (AOp.bsl a b z ps).xs) (fun x h=>h)
  simp only[AOp.xs]at e1 e2
  simp only[eff,e1,hn]
  cases hv:evs s' (ps.map fun q=>q.2)with
  | none=>rfl
  | some vs=>simp only[e2 vs hv]
 case mkf f cs =>
  obtain⟨e1,e2⟩:=evsf (l:=cs) (fun x h=>h)
  simp only[eff,e1]
  cases hv:evs s' cs with
  | none=>rfl
  | some vs=>simp only[e2 vs hv]
 case mm mx l =>
  obtain⟨e1,e2⟩:=evsf (l:=l) (fun x h=>h)
  simp only[eff,e1]
  cases hv:evs s' l with
  | none=>rfl
  | some vs=>simp only[e2 vs hv]
 case cld f l =>
  have hrd:∀ fr r,ret1d s.h fr d r=ret1d s'.h fr d r:=fun fr r=>by cases r<;> simp only[ret1d,hn]
  obtain⟨e1,e2⟩:=evsf (l:=l) (fun x h=>h)
  simp only[eff,e1,hrd]
  cases hv:evs s' l with
  | none=>rfl
  | some vs=>simp only[e2 vs hv]
 case fad x n =>
  obtain⟨g1,g2⟩:=one x (by simp[AOp.xs])
  simp only[eff,g1]
  cases hv:x.ev s' with
  | none=>rfl
  | some v =>
   cases v with
   | mp d' i j=>rcases(g2 _ hv d' rfl).two with⟨e,k,fz,fz',l,h1,h2⟩ | ⟨h1,h2⟩<;> simp only[h1,h2]
   | _=>rfl
 case ld1d x =>
  obtain⟨g1,g2⟩:=one x (by simp[AOp.xs])
  simp only[eff,g1]
  cases hv:x.ev s' with
  | none=>rfl
  | some v =>
   cases v with
   | mp d' i j=>rcases(g2 _ hv d' rfl).two with⟨e,k,fz,fz',l,h1,h2⟩ | ⟨h1,h2⟩<;> simp only[h1,h2]
   | _=>rfl
 case lend x =>
  obtain⟨g1,g2⟩:=one x (by simp[AOp.xs])
  simp only[eff,g1]
  cases hv:x.ev s' with
  | none=>rfl
  | some v =>
   cases v with
   | ms d' i j=>rcases(g2 _ hv d' rfl).two with⟨e,k,fz,fz',l,h1,h2⟩ | ⟨h1,h2⟩<;> simp only[h1,h2]
   | _=>rfl
 case iad k x i =>
  obtain⟨g1,g2⟩:=one x (by simp[AOp.xs])
  simp only[eff,g1,hx i (by simp[AOp.xs])]
  cases hv:x.ev s' with
  | none=>rfl
  | some v =>
   cases i.ev s' with
   | none=>cases v<;> rfl
   | some u =>
    cases v with
    | ms d' off len =>
     dsimp only
     cases natOf u with
     | none=>rfl
     | some n=>rcases(g2 _ hv d' rfl).two with⟨e,k,fz,fz',l,h1,h2⟩ | ⟨h1,h2⟩<;> simp only[h1,h2]
    | _=>rfl
 case cl f l =>
  obtain⟨e1,e2⟩:=evsf (l:=l) (fun x h=>h)
  simp only[eff,e1,hr]
  cases hv:evs s' l with
  | none=>rfl
  | some vs=>simp only[e2 vs hv]
 case cv x l =>
  obtain⟨e1,e2⟩:=evsf (l:=l) (fun x h=>List.mem_cons_of_mem _ h)
  simp only[eff,e1,hr,(one x (by simp[AOp.xs])).1]
  cases hv:evs s' l with
  | none =>
   cases x.ev s' with
   | none=>rfl
   | some v=>cases v with
    | p z=>cases z<;> rfl
    | _=>rfl
  | some vs =>
   have e3:=e2 vs hv
   cases x.ev s' with
   | none=>rfl
   | some v=>cases v with
    | p z=>cases z<;> first | rfl | (dsimp only; rw[e3])
    | _=>rfl
 case inv t f m x l =>
  obtain⟨e1,e2⟩:=evsf (l:=l) (fun x h=>List.mem_cons_of_mem _ h)
  simp only[eff,e1,hr,(one x (by simp[AOp.xs])).1]
  cases hv:evs s' l with
  | none =>
   cases x.ev s' with
   | none=>rfl
   | some v=>cases v with
    | p z=>cases z<;> rfl
    | _=>rfl
  | some vs =>
   have e3:=e2 vs hv
   cases x.ev s' with
   | none=>rfl
   | some v=>cases v with
    | p z=>cases z<;> first | rfl | (dsimp only; rw[e3])
    | _=>rfl
 case slc k x lo hi mx =>
  obtain⟨g1,g2⟩:=one x (by simp[AOp.xs])
  have q2:natOr s 0 lo=natOr s' 0 lo:=Ta4 fun y hy=>hx y (by simp only[AOp.xs,List.mem_cons,List.mem_append]; exact .inr (.inl (.inl hy)))
  have q3:∀ n,natOr s n hi=natOr s' n hi:=fun n=>Ta4 fun y hy=>hx y (by simp only[AOp.xs,List.mem_cons,List.mem_append]; exact .inr (.inl (.inr hy)))
  have q4:∀ m,mx=some m->natOr s 0 (some m)=natOr s' 0 (some m):=fun m hm=>Ta4 fun y hy=>hx y (by simp only[AOp.xs,List.mem_cons,List.mem_append]; exact .inr (.inr (by rw[hm]; exact hy)))
  simp only[eff,g1,q2,q3]
  cases hv:x.ev s' with
  | none=>rfl
  | some v =>
   have hvf:=g2 v hv
   simp only[Ton hvf,Ti5 hvf]
   cases mx with
   | some m=>simp only[q4 m rfl]
   | none =>
    cases v with
    | p z=>cases z<;> rfl
    | ms d' off len=>rcases(hvf d' rfl).two with⟨e,k,fz,fz',l,h1,h2⟩ | ⟨h1,h2⟩<;> simp only[h1,h2]
    | _=>rfl
 case sls x lo hi =>
  have q2:natOr s 0 lo=natOr s' 0 lo:=Ta4 fun y hy=>hx y (by simp only[AOp.xs,List.mem_cons,List.mem_append]; exact .inr (.inl hy))
  have q3:∀ n,natOr s n hi=natOr s' n hi:=fun n=>Ta4 fun y hy=>hx y (by simp only[AOp.xs,List.mem_cons,List.mem_append]; exact .inr (.inr hy))
  simp only[eff,hx x (by simp[AOp.xs]),q2,q3]
 case pick c a b=>simp only[eff,hx c (by simp[AOp.xs]),hx a (by simp[AOp.xs]),hx b (by simp[AOp.xs])]
 case nl a b=>simp only[eff,hn]
 case alloc a b c=>simp only[eff,hn]
 case alcp a b c=>simp only[eff,hn]
 case boxp a b x =>
  obtain⟨g1,g2⟩:=one x (by simp[AOp.xs])
  simp only[eff,g1,hn]
  cases hv:x.ev s' with
  | none=>rfl
  | some v=>simp only[Ti5 (g2 v hv)]
 case s2 o x y =>
  obtain⟨g1,g2⟩:=one x (by simp[AOp.xs])
  simp only[eff,g1,hx y (by simp[AOp.xs])]
  cases hv:x.ev s' with
  | none=>rfl
  | some v =>
   cases y.ev s' with
   | none=>cases v<;> rfl
   | some u =>
    cases v with
    | mp d' i j =>
     cases u with
     | p z=>cases z with
      | sc c=>cases c with
       | pointer pa=>cases pa with
        | none=>rcases(g2 _ hv d' rfl).two with⟨e,k,fz,fz',l,h1,h2⟩ | ⟨h1,h2⟩<;> simp only[h1,h2]
        | some _=>rfl
       | _=>rfl
      | _=>rfl
     | _=>rfl
    | p z=>cases u<;> rfl
    | _=>rfl
 case eqst n ks x y=>simp only[eff,hx x (by simp[AOp.xs]),hx y (by simp[AOp.xs])]
 case ia k x i =>
  obtain⟨g1,g2⟩:=one x (by simp[AOp.xs])
  simp only[eff,g1,hx i (by simp[AOp.xs])]
  cases hv:x.ev s' with
  | none=>rfl
  | some v =>
   cases i.ev s' with
   | none=>cases v<;> rfl
   | some u =>
    dsimp only
    cases natOf u with
    | none=>rfl
    | some n =>
     cases v with
     | ms d' off len=>rcases(g2 _ hv d' rfl).two with⟨e,k,fz,fz',l,h1,h2⟩ | ⟨h1,h2⟩<;> simp only[h1,h2]
     | p z=>cases z<;> rfl
     | _=>rfl
 case aa k m x i =>
  obtain⟨g1,g2⟩:=one x (by simp[AOp.xs])
  simp only[eff,g1,hx i (by simp[AOp.xs])]
  cases hv:x.ev s' with
  | none=>rfl
  | some v =>
   cases i.ev s' with
   | none=>cases v<;> rfl
   | some u =>
    cases v with
    | mp d' i' j =>
     dsimp only
     cases natOf u with
     | none=>rfl
     | some n=>rcases(g2 _ hv d' rfl).two with⟨e,k,fz,fz',l,h1,h2⟩ | ⟨h1,h2⟩<;> simp only[h1,h2]
    | _=>rfl
 case mks a b c z x y=>simp only[eff,hx x (by simp[AOp.xs]),hx y (by simp[AOp.xs]),hn]
 case box a b x =>
  obtain⟨g1,g2⟩:=one x (by simp[AOp.xs])
  simp only[eff,g1,hn]
  cases hv:x.ev s' with
  | none=>rfl
  | some v=>simp only[Ti5 (g2 v hv)]
 case ldk k x =>
  obtain⟨g1,g2⟩:=one x (by simp[AOp.xs])
  simp only[eff,g1]
  cases hv:x.ev s' with
  | none=>rfl
  | some v =>
   cases v with
   | mp d' i j=>rcases(g2 _ hv d' rfl).two with⟨e,k,fz,fz',l,h1,h2⟩ | ⟨h1,h2⟩<;> simp only[h1,h2]
   | p z=>cases z with
    | pt l=>cases l<;> rfl
    | _=>rfl
   | _=>rfl
 case iap k x i=>simp only[eff,hx x (by simp[AOp.xs]),hx i (by simp[AOp.xs])]
 case ldp1 x=>simp only[eff,hx x (by simp[AOp.xs])]
 case ldpk k x=>simp only[eff,hx x (by simp[AOp.xs])]
 case mvp x =>
  obtain⟨g1,g2⟩:=one x (by simp[AOp.xs])
  simp only[eff,g1]
  cases hv:x.ev s' with
  | none=>rfl
  | some v=>simp only[Ti5 (g2 v hv)]
 case ld1 x =>
  obtain⟨g1,g2⟩:=one x (by simp[AOp.xs])
  simp only[eff,g1]
  cases hv:x.ev s' with
  | none=>rfl
  | some v =>
   cases v with
   | mp d' i j=>rcases(g2 _ hv d' rfl).two with⟨e,k,fz,fz',l,h1,h2⟩ | ⟨h1,h2⟩<;> simp only[h1,h2]
   | p z=>cases z with
    | pt l=>cases l<;> rfl
    | _=>rfl
   | _=>rfl
 case s1 o x=>simp only[eff,hx x (by simp[AOp.xs])]
 case mki t x =>
  obtain⟨g1,g2⟩:=one x (by simp[AOp.xs])
  simp only[eff,g1]
  cases hv:x.ev s' with
  | none=>rfl
  | some v=>simp only[Ti5 (g2 v hv)]
 case fld1 x n=>simp only[eff,hx x (by simp[AOp.xs])]
 case bldp z ps =>
  have h1:evp s (ps.map fun q=>q.2.2)=evp s' (ps.map fun q=>q.2.2):=Tcp hx
  simp only[eff,h1]
 case bslp a b z ps =>
  have h1:evp s (ps.map fun q=>q.2)=evp s' (ps.map fun q=>q.2):=Tcp hx
  simp only[eff,h1]
 case ixa k m x i=>simp only[eff,hx x (by simp[AOp.xs]),hx i (by simp[AOp.xs])]
 case fldk x n m=>simp only[eff,hx x (by simp[AOp.xs])]
 case fa x n =>
  obtain⟨g1,g2⟩:=one x (by simp[AOp.xs])
  simp only[eff,g1]
  cases hv:x.ev s' with
  | none=>rfl
  | some v =>
   cases v with
   | mp d' i j=>rcases(g2 _ hv d' rfl).two with⟨e,k,fz,fz',l,h1,h2⟩ | ⟨h1,h2⟩<;> simp only[h1,h2]
   | p z=>cases z with
    | pt l=>cases l<;> rfl
    | _=>rfl
   | _=>rfl
 case ext x n=>simp only[eff,hx x (by simp[AOp.xs])]
 case mv x=>simp only[eff,hx x (by simp[AOp.xs])]
 case nck x =>
  obtain⟨g1,g2⟩:=one x (by simp[AOp.xs])
  simp only[eff,g1]
  cases hv:x.ev s' with
  | none=>rfl
  | some v =>
   cases v with
   | mp d' i j=>rcases(g2 _ hv d' rfl).two with⟨e,k,fz,fz',l,h1,h2⟩ | ⟨h1,h2⟩<;> simp only[h1,h2]
   | p z=>cases z with
    | pt l=>cases l<;> rfl
    | _=>rfl
   | _=>rfl
 case len x =>
  obtain⟨g1,g2⟩:=one x (by simp[AOp.xs])
  simp only[eff,g1]
  cases hv:x.ev s' with
  | none=>rfl
  | some v=>simp only[Ton (g2 v hv)]
 case lens x=>simp only[eff,hx x (by simp[AOp.xs])]
 case rng x=>simp only[eff,hx x (by simp[AOp.xs]),hn]
 case b2s x =>
  obtain⟨g1,g2⟩:=one x (by simp[AOp.xs])
  simp only[eff,g1]
  cases hv:x.ev s' with
  | none=>rfl
  | some v=>simp only[Txc (g2 v hv)]
 all_goals simp[AOp.hard]at ho
theorem Txd (call:Call)(d:Nat)(o:AOp)(ho:o.bare=true)(hx:∀ x∈o.xs,x.ev s=x.ev s'):eff call s d o=eff call s' d o:=by
 cases o
 case mv x=>simp only[eff,hx x (by simp[AOp.xs])]
 case pick c a b=>simp only[eff,hx c (by simp[AOp.xs]),hx a (by simp[AOp.xs]),hx b (by simp[AOp.xs])]
 case s1 o x=>simp only[eff,hx x (by simp[AOp.xs])]
 case eqst n ks x y=>simp only[eff,hx x (by simp[AOp.xs]),hx y (by simp[AOp.xs])]
 case fld1 x n=>simp only[eff,hx x (by simp[AOp.xs])]
 case bldp z ps =>
  have h1:evp s (ps.map fun q=>q.2.2)=evp s' (ps.map fun q=>q.2.2):=Tcp hx
  simp only[eff,h1]
 case bslp a b z ps =>
  have h1:evp s (ps.map fun q=>q.2)=evp s' (ps.map fun q=>q.2):=Tcp hx
  simp only[eff,h1]
 case ix1 m x i=>simp only[eff,hx x (by simp[AOp.xs]),hx i (by simp[AOp.xs])]
 case ixa k m x i=>simp only[eff,hx x (by simp[AOp.xs]),hx i (by simp[AOp.xs])]
 case fldk x n m=>simp only[eff,hx x (by simp[AOp.xs])]
 case iap k x i=>simp only[eff,hx x (by simp[AOp.xs]),hx i (by simp[AOp.xs])]
 case ldp1 x=>simp only[eff,hx x (by simp[AOp.xs])]
 case ldpk k x=>simp only[eff,hx x (by simp[AOp.xs])]
 case lens x=>simp only[eff,hx x (by simp[AOp.xs])]
 case ext x n=>simp only[eff,hx x (by simp[AOp.xs])]
 case sls x lo hi =>
  have q2:natOr s 0 lo=natOr s' 0 lo:=Ta4 fun y hy=>hx y (by simp only[AOp.xs,List.mem_cons,List.mem_append]; exact .inr (.inl hy))
  have q3:∀ n,natOr s n hi=natOr s' n hi:=fun n=>Ta4 fun y hy=>hx y (by simp only[AOp.xs,List.mem_cons,List.mem_append]; exact .inr (.inr hy))
  simp only[eff,hx x (by simp[AOp.xs]),q2,q3]
 case s2 o x y =>
  simp only[eff,hx x (by simp[AOp.xs]),hx y (by simp[AOp.xs])]
  cases o<;> first | (simp[AOp.bare]at ho; done) | rfl
 all_goals simp[AOp.bare]at ho
theorem T01 (call:Call)(d:Nat)(o:AOp)(ho:o.bare=true){e:Eff}(he:eff call s d o=some e):e.hs= []:=by
 cases o<;> first | (simp[AOp.bare]at ho; done) | skip
 all_goals
  simp only[eff,uns]at he
  repeat' split at he
  all_goals first | (simp at he; done) | (simp only[oIE]at he; subst he; rfl)
end
end Go.Proofs.YtjpibniecllafaaGreat.AM
end
