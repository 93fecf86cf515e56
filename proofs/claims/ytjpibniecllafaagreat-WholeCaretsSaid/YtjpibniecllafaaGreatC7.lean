/- Made by pack.py: AM23, AM24. No condition but what each says. -/
import Derived.Test.YtjpibniecllafaaGreatC6
import Derived.Scope
import Derived.LoopN
import Derived.ChangeShapes
import Derived.ChangeArms
import Derived.OpenShut
import Derived.Carry
import Derived.ChangeOld
set_option linter.unusedSimpArgs false
set_option linter.unusedVariables false
set_option maxHeartbeats 16000000
section
namespace Go.Proofs.YtjpibniecllafaaGreat.AM
open Go Go.RowKit
section
variable {P:Program}{base:Nat}{w0:World}{lm0:L0}{N:Nat}{g:Gs}{a:Act}{w:World}{s:St}{Q:Exit->Act->World->Prop}
def resOne (tmps:Array Value):ResultVar->Sem Value
 | .tmp t=>pure (tmps.getD t undef)
 | .cell a t=>do loadVar t (← asAddr (tmps.getD a undef))
theorem Ti8 (fn:Func)(tmps:Array Value):results fn tmps= (do
 let vs ← fn.results.mapM (resOne tmps)
 pure (if h:vs.size=1 then vs[0]else .tuple vs)):=by
 unfold results
 rfl
theorem To3 {α:Type}{f:α->Sem Value}:∀ {l:List α} {us:List Value},l.length=us.length-> (∀(i:Nat) (x:α) (u:Value),l[i]?=some x->us[i]?=some u-> (f x).run P w= .ok u w)-> (l.mapM f).run P w= .ok us w
 | [],[],_,_=>by simp
 | [],u::us,h,_=>by simp at h
 | x::l,[],h,_=>by simp at h
 | x::l,u::us,h,hr=>by
  have h1:=hr 0 x u rfl rfl
  have h2:=To3 (l:=l) (us:=us) (by simpa using h) fun i y v hy hv=>hr (i+1) y v (by simpa using hy) (by simpa using hv)
  simp[List.mapM_cons,h1,h2]
theorem Thu {t:TypeId}(h:aggT P t=some false){ad:Addr}{u:Value}(hc:w.cell? ad=some u): (loadVar t ad).run P w= .ok u w:=by
 simp[loadVar,Tc5 h,hc]
theorem Thv {t:TypeId}(h:aggT P t=some true){k:Nat}(hk:P.cellsOf t=k)(h0:0<k){b o:Nat}{vs:List Value}(hl:vs.length=k)(hc:∀(j:Nat) (u:Value),vs[j]?=some u->w.cell? ⟨b,o+j,none⟩=some u) :
 (loadVar t ⟨b,o,none⟩).run P w= .ok (.agg vs.toArray) w:=by
 have:=run_loadCells_list (P:=P) w ⟨b,o,none⟩ vs (fun j v h=>by rw[add_n]; exact hc j v h)
 rw[hl]at this
 simp[loadVar,Tc5 h,Tao hk h0,this]
theorem Tls (S:Sim base w0 lm0 N g a w s) {h0:List (Nat×Ob)} (hf:∀ d,Fz (get h0 d) (get s.h d)) {r:ResultVar} {ar:ARes} (hok:okRes P r ar=true) {x:PV} (h:finish.one ⟨s.t,h0⟩ ar=some x) :
 ∃ lm' h' u,(resOne a.tmps r).run P w= .ok u w/\Sim base w0 lm0 N ⟨lm',g.v⟩ a w ⟨s.t,h'⟩/\Rep w lm' x u/\Tr w g (get s.h) w ⟨lm',g.v⟩ (get h')/\∀ d,Fz (get h0 d) (get h' d):=by
 have tr0:Tr w g (get s.h) w ⟨g.lm,g.v⟩ (get s.h):= ⟨Ext.refl _ _,fun d o h=> .inr ⟨rfl,o,h,Shp.refl _⟩⟩
 cases ar with
 | t n =>
  cases r with
  | cell n' t=>simp[okRes]at hok
  | tmp n' =>
   simp only[okRes,beq_iff_eq]at hok
   subst hok
   simp only[finish.one]at h
   cases hv:get s.t n' with
   | none=>rw[hv]at h; simp at h
   | some v =>
    rw[hv]at h
    dsimp only at h
    cases hfz:frz h0 v with
    | none=>rw[hfz]at h; simp at h
    | some q =>
     obtain⟨y,fr⟩:=q
     rw[hfz]at h
     simp only[oIE]at h
     subst h
     obtain⟨u,hu,hr⟩:=S.tm _ _ hv
     obtain⟨lm',S',r',T',F'⟩:=Tc0 S hf hr hfz
     exact⟨lm',putAll s.h fr,u,by simp[resOne,hu],S',r',T',F'⟩
 | c1 n =>
  cases r with
  | tmp n'=>simp[okRes]at hok
  | cell n' t =>
   simp only[okRes,Bool.and_eq_true,beq_iff_eq,decide_eq_true_eq]at hok
   obtain⟨rfl,ha⟩:=hok
   simp only[finish.one]at h
   cases hv:get s.t n' with
   | none=>rw[hv]at h; simp at h
   | some v =>
    rw[hv]at h
    cases v<;> first | (simp at h; done) | skip
    rename_i d i j
    dsimp only at h
    cases hd:get h0 d with
    | none=>rw[hd]at h; simp at h
    | some ob =>
     cases ob<;> rw[hd]at h<;> first | (simp at h; done) | skip
     rename_i e k fz l
     dsimp only at h
     obtain⟨fz',hd'⟩:= (hd▸hf d:Fz (some (.row e k fz l)) (get s.h d)).row
     obtain⟨u,hu,hr⟩:=S.tm _ _ hv
     obtain⟨q0,hk,b,xs,rfl,hb,hown,hrl,h1⟩:=S.row hd' hr
     obtain⟨v0,hv0,hrep⟩:=hrl.get _ _ (Tb4 hk h)
     refine⟨g.lm,s.h,v0,?_,S,hrep,tr0,hf⟩
     have:=Thu (P:=P) ha (Ta5 hown hb hv0)
     simp[resOne,hu,asAddr,this]
 | td n=>simp[finish.one]at h
 | ck n k0 =>
  cases r with
  | tmp n'=>simp[okRes]at hok
  | cell n' t =>
   simp only[okRes,Bool.and_eq_true,beq_iff_eq,decide_eq_true_eq]at hok
   obtain⟨⟨⟨rfl,ha⟩,hks⟩,h0k⟩:=hok
   simp only[finish.one]at h
   cases hv:get s.t n' with
   | none=>rw[hv]at h; simp at h
   | some v =>
    rw[hv]at h
    cases v<;> first | (simp at h; done) | skip
    rename_i d i j
    dsimp only at h
    cases hd:get h0 d with
    | none=>rw[hd]at h; simp at h
    | some ob =>
     cases ob<;> rw[hd]at h<;> first | (simp at h; done) | skip
     rename_i e k fz l
     dsimp only at h
     cases hc:l[i]? with
     | none=>rw[hc]at h; simp at h
     | some c =>
      rw[hc]at h
      dsimp only at h
      split at h
      · rename_i hle
        simp only[oIE]at h
        subst h
        obtain⟨fz',hd'⟩:= (hd▸hf d:Fz (some (.row e k fz l)) (get s.h d)).row
        obtain⟨u,hu,hr⟩:=S.tm _ _ hv
        obtain⟨q0,hk,b,xs,rfl,hb,hown,hrl,h1⟩:=S.row hd' hr
        have hil:i<l.length:= (List.getElem?_eq_some_iff.1 hc).1
        have hck:c.length=k:=hk c (List.mem_of_getElem? hc)
        have e1: (l.flatten.drop (i*k+j)).take k0= (c.drop j).take k0:=by
         rw[← List.drop_drop,Tat i hk]
         have:l.drop i=c::l.drop (i+1):=by
          rw[List.drop_eq_getElem_cons hil]
          congr 1
          simpa[List.getElem?_eq_getElem hil]using hc
         rw[this,List.flatten_cons,List.drop_append_of_le_length (by omega),List.take_append_of_le_length (by simp; omega)]
        have hrl':= (hrl.drop (i*k+j)).take k0
        rw[e1]at hrl'
        have hlen:=hrl'.length
        rw[List.length_take,List.length_drop,Nat.min_eq_left (by omega)]at hlen
        refine⟨g.lm,s.h,.agg ((xs.drop (i*k+j)).take k0).toArray,?_,S,(.st hrl' fun u hu=>h1 u (List.mem_of_mem_drop (List.mem_of_mem_take hu))),tr0,hf⟩
        have:=Thv (P:=P) (w:=w) ha hks h0k (b:=b) (o:=i*k+j) (vs:= (xs.drop (i*k+j)).take k0) hlen.symm (fun q u hu=>Ta5 hown hb (by
         rw[List.getElem?_take]at hu
         split at hu
         · rw[List.getElem?_drop]at hu; exact hu
         · simp at hu))
        simp[resOne,hu,asAddr,this]
      · simp at h
theorem Ti9:∀ {rs:List ARes} {res:List ResultVar} {g:Gs} {s:St} {h0:List (Nat×Ob)} {xs:List PV} (S:Sim base w0 lm0 N g a w s) (hf:∀ d,Fz (get h0 d) (get s.h d)),okRess P res rs=true->finish.many ⟨s.t,h0⟩ rs=some xs ->
 ∃ lm' h' us,res.length=us.length/\ (∀(i:Nat) (r:ResultVar) (u:Value),res[i]?=some r->us[i]?=some u-> (resOne a.tmps r).run P w= .ok u w)/\Sim base w0 lm0 N ⟨lm',g.v⟩ a w ⟨s.t,h'⟩/\RepL w lm' xs us/\Ext w g.lm w lm'
 | [],[],g,s,h0,xs,S,hf,hok,h=>by
  simp only[finish.many,oIE]at h
  subst h
  exact⟨g.lm,s.h,[],rfl,fun i r u hr=>by simp at hr,S,.nil,Ext.refl _ _⟩
 | [],r::res,g,s,h0,xs,S,hf,hok,h=>by simp[okRess]at hok
 | ar::rs,[],g,s,h0,xs,S,hf,hok,h=>by simp[okRess]at hok
 | ar::rs,r::res,g,s,h0,xs,S,hf,hok,h=>by
  simp only[okRess,Bool.and_eq_true]at hok
  simp only[finish.many]at h
  cases h1:finish.one ⟨s.t,h0⟩ ar with
  | none=>rw[h1]at h; simp at h
  | some x =>
   rw[h1]at h
   dsimp only at h
   cases h2:finish.many ⟨s.t,h0⟩ rs with
   | none=>rw[h2]at h; simp at h
   | some ys =>
    rw[h2]at h
    simp only[oIE]at h
    subst h
    obtain⟨lm1,h1',u,k1,S1,R1,T1,F1⟩:=Tls S hf hok.1 h1
    obtain⟨lm2,h2',us,m1,m2,S2,R2,X2⟩:=Ti9 S1 F1 hok.2 h2
    refine⟨lm2,h2',u::us,by simp[m1],fun i r' v hr hv=> ?_,S2,.cons (R1.ext X2) R2,T1.ext.trans X2⟩
    cases i with
    | zero =>
     simp only[List.getElem?_cons_zero,oIE]at hr hv
     subst hr; subst hv; exact k1
    | succ i =>
     simp only[List.getElem?_cons_succ]at hr hv
     exact m2 i r' v hr hv
theorem Tby {fn:Func}{r:ResultVar}(h:fn.results.toList= [r]){u:Value}(hu: (resOne a.tmps r).run P w= .ok u w): (results fn a.tmps).run P w= .ok u w:=by
 have hm: (fn.results.toList.mapM (resOne a.tmps)).run P w= .ok [u] w:=by rw[h]; simp[hu]
 rw[Ti8,Sem.run_bind,Array.mapM_eq_mapM_toList,Sem.run_map,hm]
 simp
theorem Tgh {fn:Func}{us:List Value}(hl:fn.results.toList.length=us.length)(h1:us.length≠1)(hu:∀(i:Nat) (r:ResultVar) (u:Value),fn.results.toList[i]?=some r->us[i]?=some u-> (resOne a.tmps r).run P w= .ok u w): (results fn a.tmps).run P w= .ok (.tuple us.toArray) w:=by
 rw[Ti8,Sem.run_bind,Array.mapM_eq_mapM_toList,Sem.run_map,To3 hl hu]
 simp[h1]
theorem Tlt (S : Sim base w0 lm0 N g a w s) {fn:Func} {afn:AFunc} (hok:okRess P fn.results.toList afn.rs=true) {r:Ret} (h:finish afn s=some r) :
 ∃ v lm',(results fn a.tmps).run P w= .ok v w/\ (∀ b,b<base->lm' b=lm0 b)/\RRep base w lm' r v:=by
 have lmk:∀ {lm' h'},Sim base w0 lm0 N ⟨lm',g.v⟩ a w ⟨s.t,h'⟩->∀ b,b<base->lm' b=lm0 b:=fun S'=>S'.lm
 have byOne:∀ {ar:ARes} {x:PV},afn.rs= [ar]->finish.one s ar=some x->r= .val x->∃ v lm',(results fn a.tmps).run P w= .ok v w/\ (∀ b,b<base->lm' b=lm0 b)/\RRep base w lm' r v:=by
  rintro ar x har hx rfl
  rw[har]at hok
  cases hr:fn.results.toList with
  | nil=>rw[hr]at hok; simp[okRess]at hok
  | cons r0 l =>
   rw[hr]at hok
   cases l with
   | cons _ _=>simp[okRess]at hok
   | nil =>
    simp only[okRess,Bool.and_true]at hok
    obtain⟨lm',h',u,k1,S',R',_,_⟩:=Tls S (fun d=>Fz.refl _) hok hx
    exact⟨u,lm',Tby hr k1,lmk S',R'⟩
 have byMany:∀ {xs:List PV},afn.rs.length≠1->finish.many s afn.rs=some xs->r= .val (.tu xs)->∃ v lm',(results fn a.tmps).run P w= .ok v w/\ (∀ b,b<base->lm' b=lm0 b)/\RRep base w lm' r v:=by
  rintro xs hne hx rfl
  obtain⟨lm',h',us,m1,m2,S',R',_⟩:=Ti9 S (fun d=>Fz.refl _) hok hx
  have hl:∀ {res:List ResultVar} {rs:List ARes},okRess P res rs=true->res.length=rs.length:=by
   intro res
   induction res with
   | nil=>intro rs h; cases rs with
    | nil=>rfl
    | cons _ _=>simp[okRess]at h
   | cons r res ih=>intro rs h; cases rs with
    | nil=>simp[okRess]at h
    | cons _ _=>simp only[okRess,Bool.and_eq_true]at h; simp[ih h.2]
  exact⟨_,lm',Tgh m1 (by have:=hl hok; omega) m2,lmk S',.tu R'⟩
 unfold finish at h
 split at h
 · rename_i n hn
   split at h
   · rename_i d off len hv
     split at h
     · rename_i e k fz l hd
       split at h
       · rename_i hq
         obtain⟨rfl,rfl,rfl⟩:=hq
         simp only[oIE]at h
         subst h
         rw[hn]at hok
         cases hr:fn.results.toList with
         | nil=>rw[hr]at hok; simp[okRess]at hok
         | cons r0 l0 =>
          rw[hr]at hok
          cases l0 with
          | cons _ _=>simp[okRess]at hok
          | nil =>
           simp only[okRess,Bool.and_true]at hok
           cases r0 with
           | cell n' t=>simp[okRes]at hok
           | tmp n' =>
            simp only[okRes,beq_iff_eq]at hok
            subst hok
            obtain⟨u,hu,hrep⟩:=S.tm _ _ hv
            refine⟨u,g.lm,Tby hr (by simp[resOne,hu]),S.lm,?_⟩
            simp only[SRep,hd]at hrep
            obtain⟨_,h | h⟩:=hrep
            · obtain⟨_,_,rfl⟩:=h
              obtain⟨q1,q2,q3,q4⟩:=S.ob d _ hd
              exact⟨q1,q2,q3,fun b hb=>by simpa using q4 b hb⟩
            · obtain⟨h,_⟩:=h; simp at h
       · split at h
         · rename_i hle
           simp only[oIE]at h
           subst h
           refine byOne hn (x:= .sl k ((l.drop off).take len)) ?_ rfl
           simp only[finish.one,hv,frz,hd,if_pos hle]
         · simp at h
     · simp at h
   · rename_i v hnm hv
     cases hfz:frz s.h v with
     | none=>rw[hfz]at h; simp at h
     | some q =>
      rw[hfz]at h
      simp only[oIE]at h
      subst h
      refine byOne hn (x:=q.1) ?_ rfl
      simp only[finish.one,hv,hfz]
   · simp at h
 · rename_i n hn
   split at h
   · rename_i d off len hv
     split at h
     · rename_i e k l hd
       split at h
       · rename_i hq
         obtain⟨rfl,rfl⟩:=hq
         simp only[oIE]at h
         subst h
         rw[hn]at hok
         cases hr:fn.results.toList with
         | nil=>rw[hr]at hok; simp[okRess]at hok
         | cons r0 l0 =>
          rw[hr]at hok
          cases l0 with
          | cons _ _=>simp[okRess]at hok
          | nil =>
           simp only[okRess,Bool.and_true]at hok
           cases r0 with
           | cell n' t=>simp[okRes]at hok
           | tmp n' =>
            simp only[okRes,beq_iff_eq]at hok
            subst hok
            obtain⟨u,hu,hrep⟩:=S.tm _ _ hv
            refine⟨u,g.lm,Tby hr (by simp[resOne,hu]),S.lm,fun x=>g.v (x+d),?_,?_,?_⟩
            · simp only[SRep,hd]at hrep
              obtain⟨_,h | h⟩:=hrep
              · obtain⟨_,_,rfl⟩:=h; simp
              · obtain⟨h,_⟩:=h; simp at h
            · exact Tjy (S.ob d _ hd) (Nat.le_refl _) (by simp) fun p=>by
               have e0:nid 0 p+d=nid d p:=by unfold nid; omega
               rw[e0]
            · obtain⟨own,hap⟩:=S.ap
              have hlt:=S.lt _ _ hd
              refine⟨fun b=>own b-d,fun x b hi hb=> ?_⟩
              have hi':Ids d (.dp e k l) (x+d):=by
               rcases hi.dpE with rfl | ⟨p,e1,k1,l1,hp,hk,rfl⟩
               · exact .inl (by omega)
               · have e9:nid 0 p+d=nid d p:=by unfold nid; omega
                 rw[e9]; exact .dp hp hk
              have:=hap d _ (x+d) b hd rfl hi' hb
              show own b-d=x
              omega
       · simp at h
     · simp at h
   · simp at h
 · rename_i ar hne hne' har
   cases h1:finish.one s ar with
   | none=>rw[h1]at h; simp at h
   | some x =>
    rw[h1]at h
    simp only[oIE]at h
    exact byOne har h1 h.symm
 · rename_i hne1 hne0 hne2
   cases h1:finish.many s afn.rs with
   | none=>rw[h1]at h; simp at h
   | some xs =>
    rw[h1]at h
    simp only[oIE]at h
    refine byMany (fun hl=> ?_) h1 h.symm
    obtain⟨ar,har⟩:=List.length_eq_one_iff.1 hl
    exact hne2 ar har
def exitOf:Out->Exit
 | .nor=> .normal
 | .ex i=> .exit i
 | .ret=> .ret
structure EnvOk (P:Program) (E:Env):Prop where
 mixed:P.follows .mixedOrders=true
 ap:∀ f fn,E.ap f=some fn->okFunc P f fn=true
 ext:∀ f args r,E.isExt f=true->E.ext f args=some r->CallOK P f args r/\Callable P (realF f r)
def CS (P:Program)(E:Env)(k:Nat):Prop:=∀(N:Nat) (c:Go.Code) (ac:ACode) (s:St) (o:Out) (s':St) (base:Nat) (w0:World) (lm0:L0) (g:Gs) (a:Act) (w:World) (Q:Exit->Act->World->Prop),
 okCode P N c ac=true->code E k ac s=some (o,s')->Sim base w0 lm0 N g a w s-> (∀ g' a' w',Sim base w0 lm0 N g' a' w' s'->Q (exitOf o) a' w')->c.wp P Q a w
def lp (b:Bool)(keep:List Nat)(a:ACode):ACode:=if b then .loopc keep a else .loop keep a
def RS (P:Program)(E:Env)(k:Nat):Prop:=∀(N:Nat) (c:Go.Code) (b:Bool) (keep:List Nat) (ac:ACode) (s:St) (o:Out) (s':St) (base:Nat) (w0:World) (lm0:L0) (g:Gs) (a:Act) (w:World) (Q:Exit->Act->World->Prop),
 okCode P N c ac=true->code E k (lp b keep ac) s=some (o,s')->Sim base w0 lm0 N g a w s-> (∀ g' a' w',Sim base w0 lm0 N g' a' w' s'->Q (exitOf o) a' w')->Code.rounds P c Q k a w
theorem Tlu:∀ {args:List PV} {m n:Nat} {v:SV},get (entry m args) n=some v->∃ x,v= .p x/\m<=n/\args[n-m]?=some x
 | [],m,n,v,h=>by simp[entry,get]at h
 | x::xs,m,n,v,h=>by
  simp only[entry,get]at h
  split at h
  · rename_i e
    subst e
    simp only[oIE]at h
    exact⟨x,h.symm,Nat.le_refl _,by simp⟩
  · obtain⟨y,h1,h2,h3⟩:=Tlu h
    refine⟨y,h1,by omega,?_⟩
    rw[show n-m= (n- (m+1))+1 by omega]
    simpa using h3
theorem Tlv {fn:AFunc}{s:St}{r:Ret}(h:finish fn s=some r)(k T e:Nat):r≠ .sb k T e:=by
 rintro rfl
 unfold finish at h
 repeat' split at h
 all_goals simp at h
theorem Tlw {fn:AFunc}{s:St}{r:Ret}(h:finish fn s=some r):r.pl=true:=by
 cases r with
 | shr v hh =>
  exfalso
  unfold finish at h
  repeat' split at h
  all_goals simp at h
 | shn v hh =>
  exfalso
  unfold finish at h
  repeat' split at h
  all_goals simp at h
 | _=>rfl
theorem Tf1 (S:Sim base w0 lm0 N g a w s){r:ResultVar}{ar:ARes}(hok:okRes P r ar=true){x:RV}(h:oneS s ar=some x):∃ u,(resOne a.tmps r).run P w= .ok u w/\QRep w g (get s.h) x u:=by
 cases ar with
 | t n =>
  cases r with
  | cell n' t=>simp[okRes]at hok
  | tmp n' =>
   simp only[okRes,beq_iff_eq]at hok
   subst hok
   simp only[oneS]at h
   cases hv:get s.t n' with
   | none=>rw[hv]at h; simp at h
   | some v =>
    rw[hv]at h
    obtain⟨u,hu,hr⟩:=S.tm _ _ hv
    exact⟨u,by simp[resOne,hu],QRep.sv.2 (by rw[← SV.rv_sv h]; exact hr)⟩
 | c1 n =>
  cases r with
  | tmp n'=>simp[okRes]at hok
  | cell n' t =>
   simp only[okRes,Bool.and_eq_true,beq_iff_eq,decide_eq_true_eq]at hok
   obtain⟨rfl,ha⟩:=hok
   simp only[oneS]at h
   split at h
   case h_2=>simp at h
   rename_i d i j hv
   obtain⟨u,hu,hr⟩:=S.tm _ _ hv
   split at h
   · rename_i e k fz l hd
     split at h
     case h_2=>simp at h
     rename_i c hc
     obtain rfl:=oIj h
     obtain⟨q0,hk,b,xs,rfl,hb,hown,hrl,h1⟩:=S.row hd hr
     obtain⟨v0,hv0,hrep⟩:=hrl.get _ _ (Tb4 hk hc)
     have:=Thu (P:=P) ha (Ta5 hown hb hv0)
     exact⟨v0,by simp[resOne,hu,asAddr,this],hrep⟩
   · rename_i e k l hd
     obtain⟨q0,hk,b,xs,rfl,hb,hown,hq,h1⟩:=S.gro hd hr
     obtain⟨v0,hv0,hrep⟩:=hq.get _ _ (Tfp hk h)
     have:=Thu (P:=P) ha (Ta5 hown hb hv0)
     exact⟨v0,by simp[resOne,hu,asAddr,this],hrep⟩
   · simp at h
 | td n=>simp[oneS]at h
 | ck n k0 =>
  cases r with
  | tmp n'=>simp[okRes]at hok
  | cell n' t =>
   simp only[okRes,Bool.and_eq_true,beq_iff_eq,decide_eq_true_eq]at hok
   obtain⟨⟨⟨rfl,ha⟩,hks⟩,h0k⟩:=hok
   simp only[oneS]at h
   split at h
   case h_2=>simp at h
   rename_i d i j hv
   obtain⟨u,hu,hr⟩:=S.tm _ _ hv
   split at h
   case h_2=>simp at h
   rename_i e k fz l hd
   split at h
   case h_2=>simp at h
   rename_i c hc
   split at h
   case isFalse=>simp at h
   rename_i hle
   obtain rfl:=oIj h
   obtain⟨q0,hk,b,xs,rfl,hb,hown,hrl,h1⟩:=S.row hd hr
   have hrl':= (hrl.drop (i*k+j)).take k0
   rw[Thb hk hc hle]at hrl'
   have hlen:=hrl'.length
   rw[List.length_take,List.length_drop,Nat.min_eq_left (by omega)]at hlen
   have:=Thv (P:=P) (w:=w) ha hks h0k (b:=b) (o:=i*k+j) (vs:= (xs.drop (i*k+j)).take k0) hlen.symm (fun q u hu=>Ta5 hown hb (by
    rw[List.getElem?_take]at hu
    split at hu
    · rw[List.getElem?_drop]at hu; exact hu
    · simp at hu))
   exact⟨.agg ((xs.drop (i*k+j)).take k0).toArray,by simp[resOne,hu,asAddr,this],(Rep.st hrl' fun u hu=>h1 u (List.mem_of_mem_drop (List.mem_of_mem_take hu)))⟩
theorem Thw (S:Sim base w0 lm0 N g a w s):∀ {rs:List ARes} {res:List ResultVar} {xs:List RV},okRess P res rs=true->manyS s rs=some xs ->
 ∃ us,res.length=us.length/\ (∀(i:Nat) (r:ResultVar) (u:Value),res[i]?=some r->us[i]?=some u-> (resOne a.tmps r).run P w= .ok u w)/\QRepL w g (get s.h) xs us
 | [],[],xs,hok,h=>by
  simp only[manyS,oIE]at h
  subst h
  exact⟨[],rfl,fun i r u hr=>by simp at hr,.nil⟩
 | [],r::res,xs,hok,h=>by simp[okRess]at hok
 | ar::rs,[],xs,hok,h=>by simp[okRess]at hok
 | ar::rs,r::res,xs,hok,h=>by
  simp only[okRess,Bool.and_eq_true]at hok
  simp only[manyS]at h
  split at h
  case h_2=>simp at h
  rename_i x h1
  split at h
  case h_2=>simp at h
  rename_i ys h2
  obtain rfl:=oIj h
  obtain⟨u,k1,k2⟩:=Tf1 S hok.1 h1
  obtain⟨us,m1,m2,m3⟩:=Thw S hok.2 h2
  refine⟨u::us,by simp[m1],fun i r' v hr hv=> ?_,.cons k2 m3⟩
  cases i with
  | zero =>
   simp only[List.getElem?_cons_zero,oIE]at hr hv
   subst hr; subst hv; exact k1
  | succ i =>
   simp only[List.getElem?_cons_succ]at hr hv
   exact m2 i r' v hr hv
theorem Tja:∀ {res:List ResultVar} {rs:List ARes},okRess P res rs=true->res.length=rs.length
 | [],[],_=>rfl
 | [],_::_,h=>by simp[okRess]at h
 | _::_,[],h=>by simp[okRess]at h
 | r::res,x::rs,h=>by
  simp only[okRess,Bool.and_eq_true]at h
  simp[Tja h.2]
theorem To4 {g:Gs}{h:Nat->Option Ob}:∀ {xs:List RV} {ys:List PV} {us:List Value},allP xs=some ys->QRepL w g h xs us->RepL w g.lm ys us
 | [],ys,us,hh,hq=>by
  simp only[allP,oIE]at hh
  subst hh
  cases hq
  exact .nil
 | x::xs,ys,us,hh,hq=>by
  cases x with
  | p y =>
   simp only[allP]at hh
   split at hh
   case h_2=>simp at hh
   rename_i zs hzs
   obtain rfl:=oIj hh
   cases hq with
   | cons a b=>exact .cons a (To4 hzs b)
  | _=>simp[allP]at hh
theorem Tka (S:Sim base w0 lm0 N g a w s){fn:Func}{afn:AFunc}(hok:okRess P fn.results.toList afn.rs=true){v:SV}(h:finishS afn s=some v):∃ u,(results fn a.tmps).run P w= .ok u w/\SRep w g (get s.h) v u:=by
 have one:∀ {ar:ARes},afn.rs= [ar]->∃ r,fn.results.toList= [r]/\okRes P r ar=true:=by
  intro ar har
  rw[har]at hok
  cases hr:fn.results.toList with
  | nil=>rw[hr]at hok; simp[okRess]at hok
  | cons r0 l =>
   rw[hr]at hok
   cases l with
   | cons _ _=>simp[okRess]at hok
   | nil=>simp only[okRess,Bool.and_true]at hok; exact⟨r0,rfl,hok⟩
 unfold finishS at h
 split at h
 · rename_i n hn
   obtain⟨r,h1,h2⟩:=one hn
   cases r with
   | cell n' t=>simp[okRes]at h2
   | tmp n' =>
    simp only[okRes,beq_iff_eq]at h2
    subst h2
    obtain⟨u,hu,hr⟩:=S.tm _ _ h
    exact⟨u,Tby h1 (by simp[resOne,hu]),hr⟩
 · rename_i n k0 hn
   obtain⟨r,h1,h2⟩:=one hn
   split at h
   case h_2=>simp at h
   rename_i d i j hv
   split at h
   · rename_i e k fz l hd
     have hx:oneS s (.ck n k0)= (match l[i]? with | some c=>if j+k0<=c.length then some (.p (.st ((c.drop j).take k0)))else none | none=>none):=by simp only[oneS,hv,hd]; rfl
     split at h
     case h_2=>simp at h
     rename_i c hc
     split at h
     case isFalse=>simp at h
     rename_i hle
     obtain rfl:=oIj h
     rw[hc]at hx
     dsimp only at hx
     rw[if_pos hle]at hx
     obtain⟨u,k1,k2⟩:=Tf1 S h2 hx
     exact⟨u,Tby h1 k1,k2⟩
   · rename_i e k l hd
     split at h
     case h_2=>simp at h
     rename_i c hc
     split at h
     case isFalse=>simp at h
     rename_i hle
     obtain rfl:=oIj h
     cases r with
     | tmp n'=>simp[okRes]at h2
     | cell n' t =>
      simp only[okRes,Bool.and_eq_true,beq_iff_eq,decide_eq_true_eq]at h2
      obtain⟨⟨⟨rfl,ha⟩,hks⟩,h0k⟩:=h2
      obtain⟨u,hu,hr⟩:=S.tm _ _ hv
      obtain⟨q0,hk,b,xs,rfl,hb,hown,hq,hx1⟩:=S.gro hd hr
      have hq':= (hq.drop (i*k+j)).take k0
      rw[Thb hk hc hle]at hq'
      have hlen:=hq'.length
      rw[List.length_take,List.length_drop,Nat.min_eq_left (by omega)]at hlen
      have:=Thv (P:=P) (w:=w) ha hks h0k (b:=b) (o:=i*k+j) (vs:= (xs.drop (i*k+j)).take k0) hlen.symm (fun q u hu=>Ta5 hown hb (by
       rw[List.getElem?_take]at hu
       split at hu
       · rw[List.getElem?_drop]at hu; exact hu
       · simp at hu))
      exact⟨.agg ((xs.drop (i*k+j)).take k0).toArray,Tby h1 (by simp[resOne,hu,asAddr,this]),⟨_,rfl,hq',fun u hu=>hx1 u (List.mem_of_mem_drop (List.mem_of_mem_take hu))⟩⟩
   · simp at h
 · rename_i r0 _ _ hr0
   obtain⟨r,h1,h2⟩:=one hr0
   split at h
   case h_2=>simp at h
   rename_i x hx
   obtain rfl:=oIj h
   obtain⟨u,k1,k2⟩:=Tf1 S h2 hx
   exact⟨u,Tby h1 k1,QRep.sv.1 k2⟩
 · rename_i hne1 hne0 hne2
   split at h
   case h_2=>simp at h
   rename_i xs hx
   obtain⟨us,m1,m2,m3⟩:=Thw S hok hx
   have hl:=Tja hok
   have hrun:=Tgh (P:=P) (w:=w) (fn:=fn) (a:=a) m1 (fun h1=>by
    obtain⟨ar,har⟩:=List.length_eq_one_iff.1 (show afn.rs.length=1 by omega)
    exact hne2 ar har) m2
   split at h
   · rename_i ys hys
     obtain rfl:=oIj h
     exact⟨_,hrun,Rep.tu (To4 hys m3)⟩
   · obtain rfl:=oIj h
     exact⟨_,hrun,⟨us,rfl,m3⟩⟩
theorem Tjb:∀ {vs:List SV} {m n:Nat} {v:SV},get (entryS m vs) n=some v->m<=n/\vs[n-m]?=some v
 | [],m,n,v,h=>by simp[entryS,get]at h
 | x::xs,m,n,v,h=>by
  simp only[entryS,get]at h
  split at h
  · rename_i e
    subst e
    simp only[oIE]at h
    exact⟨Nat.le_refl _,by simp[h]⟩
  · obtain⟨h2,h3⟩:=Tjb h
    refine⟨by omega,?_⟩
    rw[show n-m= (n- (m+1))+1 by omega]
    simpa using h3
theorem SRepL.get {w:World}{g:Gs}{h:Nat->Option Ob}:∀ {l us},SRepL w g h l us->∀(i:Nat) (v:SV),l[i]?=some v->∃ u,us[i]?=some u/\SRep w g h v u
 | _,_,.nil,i,v,hh=>by simp at hh
 | _,_,.cons a b,0,v,hh=>by simp at hh; subst hh; exact⟨_,rfl,a⟩
 | _,_,.cons a b,i+1,v,hh=>by simpa using SRepL.get b i v (by simpa using hh)
theorem SRepL.length {w:World}{g:Gs}{h:Nat->Option Ob}:∀ {l us},SRepL w g h l us->l.length=us.length
 | _,_,.nil=>rfl
 | _,_,.cons _ b=>by simp[SRepL.length b]
theorem Sim.leave (S:Sim base w0 lm0 N g a w s){R:List Nat}{n:Nat}{v:SV}{u:Value}(hR:reach s.h 300 (List.range n++v.refs) []=some R)(hn:R.take n=List.range n)(hv:SRep w g (get s.h) v u)(hpl:lm0.pl=some (List.range n)) :
 ∃ g',g'.lm=g.lm/\HS base g' w (subH s.h (pos R) R 0)/\SRep w g' (get (subH s.h (pos R) R 0)) (v.mapr (pos R)) u/\ (∀ b,Free g (get s.h) b->Free g' (get (subH s.h (pos R) R 0)) b) /\
  ∀ v1 u1,lm0.ov v1 u1->SRep w g' (get (subH s.h (pos R) R 0)) v1 u1:=by
 obtain⟨hRn,hRt,hRx,hRc⟩:=Tbv hR
 have hRl:=Te8 hR
 have ren:=Ts8 hRn hRx hRc (by omega)
 have hin:=fun e (he:e∈R)=>Ti2 (h:=s.h) (R:=R) hRx he
 have hposn:∀ i,i<n->i∈R/\pos R i=i:=fun i hi=>by
  have hnl:n<=R.length:=by
   have:=congrArg List.length hn
   simp at this
   omega
  have h1:at0 R i=i:=by
   unfold at0
   have:R[i]?= (R.take n)[i]?:=by rw[List.getElem?_take,if_pos hi]
   rw[List.getD_eq_getElem?_getD,this,hn,List.getElem?_range hi]
   rfl
  have h2:=Tb6 hRn (i:=i) (by omega)
  rw[h1]at h2
  exact⟨by rw[← h1]; exact Ta7 (by omega),h2⟩
 refine⟨⟨g.lm,fun x=>g.v (lift (at0 R) x)⟩,rfl,S.hs.ren ren,ren.srep (fun e he=>hin e (hRt e (by simp[SV.mem_refs.2 he]))) hv,fun b hb=>ren.free hb,fun v1 u1 ho=> ?_⟩
 have href:∀ e,v1.ref e=true->e<n:=fun e he=>by
  obtain⟨l,h1,h2⟩:=S.pn v1 u1 ho e he
  rw[hpl]at h1
  obtain rfl:=oIj h1
  simpa using h2
 have:=ren.srep (w:=w) (fun e he=>hin e (hposn e (href e he)).1) (S.ov v1 u1 ho)
 rwa[SV.mapr_id fun e he=> (hposn e (href e he)).2]at this
theorem shares {E:Env}{k:Nat}(hc:CS P E k){f:FuncId}{fn:AFunc}{vs:List SV}{h:List (Nat×Ob)}{o:Out}{s':St}{v:SV}(hok:okFunc P f fn=true)(hlen:vs.length=fn.np)(hkk:okK h 0=true)(hl9:h.length<=1000)(ho:code E k fn.body (startS vs h)=some (o,s'))(hor:o= .nor∨o= .ret)(hfin:finishS fn s'=some v)
 {R:List Nat} (hR:reach s'.h 300 (List.range h.length++v.refs) []=some R) (hRn:R.take h.length=List.range h.length):SharedOK P f [.hp vs h] (v.mapr (pos R)) (subH s'.h (pos R) R 0):=by
 intro vs1 h1 harg base w0 lmf g w us H hr K hK
 have harg2:vs=vs1/\h=h1:=by simpa using harg
 obtain⟨rfl,rfl⟩:=harg2
 unfold okFunc at hok
 cases hf:P.funcs[f]? with
 | none=>rw[hf]at hok; simp at hok
 | some gf =>
  rw[hf]at hok
  cases hb:gf.body with
  | none=>dsimp only at hok; rw[hb]at hok; simp at hok
  | some c =>
   dsimp only at hok
   rw[hb]at hok
   simp only[Bool.and_eq_true,decide_eq_true_eq,Bool.not_eq_true',beq_iff_eq]at hok
   obtain⟨⟨⟨⟨h1,h2⟩,h3⟩,h4⟩,h5⟩:=hok
   have hul:=hr.length
   have hkeys:h.map (fun q=>q.1)=List.range h.length:=by rw[Te9 hkk,List.range_eq_range']
   have hlt:∀ d,get h d≠none->d<h.length:=fun d hd=>by have:= (Tcn hkk d).1 hd; omega
   have h9:get h 999999=none:=by
    cases hg:get h 999999 with
    | none=>rfl
    | some x=>have:=hlt 999999 (by rw[hg]; simp); omega
   have hpg:∀ d,d≠999999->get (AM.put h 999999 (.pin (h.map fun q=>q.1))) d=get h d:=fun d hd=>Tae _ (Ne.symm hd) _
   have hps:∀ d,get (AM.put h 999999 (.pin (h.map fun q=>q.1))) d=some (.pin (h.map fun q=>q.1))∨get (AM.put h 999999 (.pin (h.map fun q=>q.1))) d=get h d:=fun d=>by
    by_cases hd:d=999999
    · subst hd; exact .inl (Tac _ _ _)
    · exact .inr (hpg d hd)
   have sweak:∀ v1 u1,SRep w g (get h) v1 u1->SRep w g (get (AM.put h 999999 (.pin (h.map fun q=>q.1)))) v1 u1:=fun v1 u1 hs=>hs.weak fun d hd=>hpg d fun e=>by
    obtain⟨o1,ho1,_⟩:=hs.there hd
    rw[e,h9]at ho1
    simp at ho1
   refine calls_of_wp hf hb ?_
   refine hc gf.ntmps c fn.body (startS vs h) o s' base w0 ⟨lmf,fun v1 u1=>SRep w g (get h) v1 u1,some (List.range h.length),K,w,g.lm⟩ g _ w _ h1 ho ⟨H.bas,?_,rfl,H.below,H.lm,fun n v1 hn=> ?_,fun d o1 hd=> ?_,fun d o1 hd=> ?_,?_,fun d e k1 l xs hd hw=> ?_,sweak,fun v1 u1 hs d hd=> ⟨_,rfl,?_⟩,fun l hl=> ?_,⟨Ext.refl _ _,Nat.le_refl _,fun b _=> ⟨rfl,rfl⟩,fun b hb d o1 x hd hlv hi=> ?_⟩⟩ ?_
   · simp; omega
   · obtain⟨_,hx⟩:=Tjb hn
     simp only[Nat.sub_zero]at hx
     obtain⟨u,hu,hrep⟩:=hr.get _ _ hx
     refine⟨u,?_,sweak _ _ hrep⟩
     have hlt2:n<us.length:= (List.getElem?_eq_some_iff.1 hu).1
     rw[Array.getElem?_append_left (by simpa using hlt2)]
     simpa using hu
   · rcases hps d with h8 | h8
     · rw[show(startS vs h).h=AM.put h 999999 (.pin (h.map fun q=>q.1))from rfl,h8]at hd
       obtain rfl:=oIj hd
       trivial
     · exact H.hs.ob d o1 (h8▸hd)
   · rcases hps d with h8 | h8
     · by_cases hd9:d=999999
       · omega
       · exact H.hs.lt d o1 ((hpg d hd9)▸hd)
     · exact H.hs.lt d o1 (h8▸hd)
   · obtain⟨own,hap⟩:=H.hs.ap
     refine⟨own,fun d o1 x b hd hlv hi hbk=> ?_⟩
     rcases hps d with h8 | h8
     · rw[show(startS vs h).h=AM.put h 999999 (.pin (h.map fun q=>q.1))from rfl,h8]at hd
       obtain rfl:=oIj hd
       simp[Ob.live]at hlv
     · exact hap d o1 x b (h8▸hd) hlv hi hbk
   · rcases hps d with h8 | h8
     · rw[show(startS vs h).h=AM.put h 999999 (.pin (h.map fun q=>q.1))from rfl,h8]at hd
       simp at hd
     · have hq:=H.hs.gs d e k1 l xs (h8▸hd) hw
       have:=hq.mono (F:=fun r=>r) (g':=g) (h':=get (startS vs h).h) (w':=w) fun r _ z hz=>QRep.sv.2 (sweak _ _ (QRep.sv.1 hz))
       rwa[List.map_id']at this
   · obtain⟨o1,ho1,_⟩:=SRep.there hs hd
     simpa using hlt d (by rw[ho1]; simp)
   · have hl':List.range h.length=l:=by simpa using hl
     refine⟨?_,fun d hd=> ?_⟩
     · show get (AM.put h 999999 (.pin (h.map fun q=>q.1))) 999999=_
       rw[Tac,hkeys,hl']
     · right
       rw[← hl']at hd
       have hd':d<h.length:=by simpa using hd
       have:= (Tcn hkk d).2 (by omega)
       show get (AM.put h 999999 (.pin (h.map fun q=>q.1))) d≠none
       rw[hpg d (by omega)]
       exact this
   · rcases hps d with h8 | h8
     · rw[show(startS vs h).h=AM.put h 999999 (.pin (h.map fun q=>q.1))from rfl,h8]at hd
       obtain rfl:=oIj hd
       simp[Ob.live]at hlv
     · exact(hK b hb.1).2 d o1 x (h8▸hd) hlv hi
   · intro g' a' w' S'
     obtain⟨u,q1,q2⟩:=Tka S' h3 hfin
     obtain⟨g2,l1,l2,l3,l4,l5⟩:=S'.leave hR hRn q2 rfl
     have:bodyPost P gf (fun e w'=>∃ u g',e= .returned u/\HSim base w0 lmf g' w' (subH s'.h (pos R) R 0)/\SRep w' g' (get (subH s'.h (pos R) R 0)) (v.mapr (pos R)) u/\Ext w g.lm w' g'.lm/\w.heap.size<=w'.heap.size/\ (∀ b,K b->w'.heap[b]?=w.heap[b]?/\g'.lm b=g.lm b/\Free g' (get (subH s'.h (pos R) R 0)) b)/\∀ v1 u1,SRep w g (get h) v1 u1->SRep w' g' (get (subH s'.h (pos R) R 0)) v1 u1) .normal a' w' :=
      ⟨S'.defers,u,q1,u,g2,rfl,⟨S'.bas,S'.below,fun b hb=>by rw[l1]; exact S'.lm b hb,l2⟩,l3,by rw[l1]; exact S'.fr.ex,S'.fr.sz,fun b hb=>by
       have hKb: (⟨lmf,fun v1 u1=>SRep w g (get h) v1 u1,some (List.range h.length),K,w,g.lm⟩:L0).K b:= ⟨hb,(hK b hb).1⟩
       obtain⟨z1,z2⟩:=S'.fr.kf b hKb
       exact⟨z1,by rw[l1]; exact z2,l4 b (S'.fr.kd b hKb)⟩,fun v1 u1 hs=>l5 v1 u1 hs⟩
     rcases hor with rfl | rfl<;> exact this
theorem SharedOK.congr {f:FuncId}{args:List PV}{v:SV}{h1 h2:List (Nat×Ob)}(hs:SharedOK P f args v h1)
 (he:∀ vs h,args= [.hp vs h]->∀(base:Nat) (g:Gs) (w:World),HS base g w h->∀ x,get h1 x=get h2 x):SharedOK P f args v h2:=by
 intro vs h harg base w0 lmf g w us H hr K hK
 have hg:get h1=get h2:=funext (he vs h harg base g w H.hs)
 refine(hs vs h harg base w0 lmf g w us H hr K hK).mono ?_
 rintro en w' ⟨u,g',rfl,H',R',X',Z',F',O'⟩
 refine⟨u,g',rfl,⟨H'.bas,H'.below,H'.lm,⟨fun d o hd=>H'.hs.ob d o (hg▸hd),fun d o hd=>H'.hs.lt d o (hg▸hd),?_,fun d e k l xs hd hw=> ?_⟩⟩,hg▸R',X',Z',fun b hb=> ?_,fun v1 u1 hv=>hg▸O' v1 u1 hv⟩
 · obtain⟨own,hap⟩:=H'.hs.ap
   exact⟨own,fun d o x b hd=>hap d o x b (hg▸hd)⟩
 · exact hg▸H'.hs.gs d e k l xs (hg▸hd) hw
 · obtain⟨z1,z2,z3⟩:=F' b hb
   exact⟨z1,z2,hg▸z3⟩
theorem Ttm {E : Env} (hE:EnvOk P E) {k:Nat} (hc:CS P E k):Good P (call E (k+1)):=by
 intro f args r h
 rw[Tel]at h
 split at h
 · rename_i he
   exact hE.ext f args r he h
 · cases hap : E.ap f with
   | none =>
    rw[hap]at h
    dsimp only at h
    split at h
    case h_2=>simp at h
    rename_i vs hh
    have callable:∀ {F:FuncId} {fn:AFunc},E.ap F=some fn->Callable P F:=by
     intro F fn hap2
     have hok:=hE.ap _ fn hap2
     unfold okFunc at hok
     cases hf:P.funcs[F]? with
     | none=>rw[hf]at hok; simp at hok
     | some gf =>
      rw[hf]at hok
      cases hb:gf.body with
      | none=>dsimp only at hok; rw[hb]at hok; simp at hok
      | some c =>
       dsimp only at hok
       rw[hb]at hok
       simp only[Bool.and_eq_true,decide_eq_true_eq,Bool.not_eq_true',beq_iff_eq]at hok
       obtain⟨⟨⟨⟨h1,h2⟩,h3⟩,h4⟩,h5⟩:=hok
       exact⟨gf,hf,h4,by simp[hb]⟩
    split at h
    · obtain ⟨F, hF⟩:∃ F,F=f-2000000:= ⟨_,rfl⟩
      rw[← hF]at h
      cases hap2:E.ap F with
      | none=>rw[hap2]at h; simp at h
      | some fn =>
       rw[hap2]at h
       dsimp only at h
       have hok:=hE.ap _ fn hap2
       have hcal:=callable hap2
       split at h
       case isFalse=>simp at h
       rename_i hcond
       obtain⟨c1,c2,c3,c4⟩:=hcond
       have fin:∀ {o:Out} {s:St},code E k fn.body (startS vs hh)=some (o,s)-> (o= .nor∨o= .ret)-> (match finishS fn s with | some v=>newS hh v s | none=>none)=some r->CallOK P f [.hp vs hh] r/\Callable P (realF f r):=by
        intro o s ho hor hfin
        cases hv:finishS fn s with
        | none=>rw[hv]at hfin; simp at hfin
        | some v =>
         rw[hv]at hfin
         dsimp only at hfin
         unfold newS at hfin
         split at hfin
         case h_2=>simp at hfin
         rename_i R hR
         split at hfin
         case isFalse=>simp at hfin
         rename_i hR2
         obtain⟨hRn,hfz⟩:=hR2
         obtain rfl:=oIj hfin
         rw[Tfs,Thh,← hF]
         refine⟨fun vs1 h1 harg=> ?_,hcal⟩
         have harg2:vs=vs1/\hh=h1:=by simpa using harg
         obtain⟨rfl,rfl⟩:=harg2
         refine(shares hc hok c1 c2 c3 ho hor hv hR hRn).congr fun vs2 h2 harg3 base g w HH x=> ?_
         have harg4:vs=vs2/\hh=h2:=by simpa using harg3
         obtain⟨rfl,rfl⟩:=harg4
         obtain⟨hRnd,hRt,hRx,hRc⟩:=Tbv hR
         have hRe:∀ d∈R,get s.h d≠none:=fun d hd=>by obtain⟨o,q,_⟩:=hRx d hd; rw[q]; simp
         have same:=T1a c4 c2 c3 ho hfz
         have hnl:hh.length<=R.length:=by
          have:=congrArg List.length hRn
          simp at this
          omega
         have hat:∀ i,i<hh.length->at0 R i=i:=fun i hi=>by
          unfold at0
          have:R[i]?= (R.take hh.length)[i]?:=by rw[List.getElem?_take,if_pos hi]
          rw[List.getD_eq_getElem?_getD,this,hRn,List.getElem?_range hi]
          rfl
         have hpos:∀ i,i<hh.length->pos R i=i:=fun i hi=>by
          have:=Tb6 hRnd (i:=i) (by omega)
          rwa[hat i hi]at this
         have hRd:∀ d∈R.drop hh.length,get s.h d≠none:=fun d hd=>hRe d (List.mem_of_mem_drop hd)
         rw[Tcx hRe,Thj,Tcx hRd]
         simp only[Nat.zero_le,true_and,Nat.zero_add,Nat.sub_zero,List.length_drop]
         by_cases hx:x<hh.length
         · have hx1:= (Tcn c2 x).2 (by omega)
           rw[if_pos (by omega),hat x hx,same x hx1]
           cases hg:get hh x with
           | none=>exact absurd hg hx1
           | some o1 =>
            show some (o1.mapr (pos R))=some o1
            congr 1
            cases o1 with
            | gr e k1 l =>
             obtain⟨_,_,⟨xs,h3,_⟩,_⟩:=HH.ob x _ hg
             have hq:=HH.gs x e k1 l xs hg h3
             have key:∀(l:List RV) (us:List Value),QRepL w g (get hh) l us->∀ r∈l,∀ e,r.id?=some e->e<hh.length:=by
              intro l us hq
              induction hq with
              | nil=>intro r hr; simp at hr
              | cons a b ih =>
               intro r hr e he
               rcases List.mem_cons.1 hr with rfl | hr
               · obtain⟨o2,ho2,_⟩:=SRep.there (v:=r.sv) (QRep.sv.1 a) (e:=e) (by cases r<;> simp[RV.id?,RV.sv,SV.ref]at he ⊢<;> exact he)
                 have:= (Tcn c2 e).1 (by rw[ho2]; simp)
                 omega
               · exact ih r hr e he
             simp only[Ob.mapr,Ob.gr.injEq,true_and]
             refine(List.map_congr_left (g:=id) fun c hcm=> ?_).trans (List.map_id l)
             exact RV.maprs_id fun r hr e he=>hpos e (key _ _ hq r (List.mem_flatten.2 ⟨c,hcm,hr⟩) e he)
            | _=>rfl
         · have hxn:get hh x=none:=by
            cases hg:get hh x with
            | none=>rfl
            | some o1=>have:= (Tcn c2 x).1 (by rw[hg]; simp); omega
           rw[hxn]
           simp only[Option.orElse_none,Option.orElse]
           by_cases hx2:x<R.length
           · rw[if_pos hx2,if_pos (by omega)]
             have:at0 (R.drop hh.length) (x-hh.length)=at0 R x:=by
              unfold at0
              rw[List.getD_eq_getElem?_getD,List.getD_eq_getElem?_getD,List.getElem?_drop]
              congr 2
              omega
             rw[this]
           · rw[if_neg hx2,if_neg (by omega)]
       split at h
       · simp at h
       · rename_i o s hne ho
         refine fin ho ?_ h
         cases o with
         | nor=>exact .inl rfl
         | ret=>exact .inr rfl
         | ex i=>exact(hne i rfl).elim
       · simp at h
    · obtain⟨F,hF⟩:∃ F,F=f-1000000:= ⟨_,rfl⟩
      rw[← hF]at h
      cases hap2:E.ap F with
      | none=>rw[hap2]at h; simp at h
      | some fn =>
       rw[hap2]at h
       dsimp only at h
       have hok:=hE.ap _ fn hap2
       have hcal:=callable hap2
       split at h
       case isFalse=>simp at h
       rename_i hcond
       obtain⟨c1,c2,c3⟩:=hcond
       have fin:∀ {o:Out} {s:St},code E k fn.body (startS vs hh)=some (o,s)-> (o= .nor∨o= .ret)-> (match finishS fn s with | some v=>leftS hh.length v s | none=>none)=some r->CallOK P f [.hp vs hh] r/\Callable P (realF f r):=by
        intro o s ho hor hfin
        cases hv:finishS fn s with
        | none=>rw[hv]at hfin; simp at hfin
        | some v =>
         rw[hv]at hfin
         dsimp only at hfin
         unfold leftS at hfin
         split at hfin
         case h_2=>simp at hfin
         rename_i R hR
         split at hfin
         case isFalse=>simp at hfin
         rename_i hRn
         obtain rfl:=oIj hfin
         rw[Tfr,Thg,← hF]
         exact⟨shares hc hok c1 c2 c3 ho hor hv hR hRn,hcal⟩
       split at h
       · simp at h
       · rename_i o s hne ho
         refine fin ho ?_ h
         cases o with
         | nor=>exact .inl rfl
         | ret=>exact .inr rfl
         | ex i=>exact(hne i rfl).elim
       · simp at h
   | some fn =>
    rw[hap]at h
    dsimp only at h
    have hok:=hE.ap f fn hap
    unfold okFunc at hok
    cases hf:P.funcs[f]? with
    | none=>rw[hf]at hok; simp at hok
    | some gf =>
     rw[hf]at hok
     cases hb:gf.body with
     | none=>dsimp only at hok; rw[hb]at hok; simp at hok
     | some c =>
      dsimp only at hok
      rw[hb]at hok
      simp only[Bool.and_eq_true,decide_eq_true_eq,Bool.not_eq_true',beq_iff_eq]at hok
      obtain⟨⟨⟨⟨h1,h2⟩,h3⟩,h4⟩,h5⟩:=hok
      split at h
      case isFalse=>simp at h
      rename_i hlen
      have fin0:∃ o s',code E k fn.body ⟨entry 0 args,[]⟩=some (o,s')/\ (o= .nor∨o= .ret)/\finish fn s'=some r:=by
       split at h
       · simp at h
       · rename_i o s' hne ho
         refine⟨o,s',ho,?_,h⟩
         cases o with
         | nor=>exact .inl rfl
         | ret=>exact .inr rfl
         | ex i=>exact(hne i rfl).elim
       · simp at h
      obtain⟨o,s',ho,hor,hfin⟩:=fin0
      refine⟨CallOK.of ?_ (fun k1 T1 e1=>Tlv hfin k1 T1 e1) (Tlw hfin),by rw[Thf (Tlw hfin)]; exact⟨gf,hf,h4,by simp[hb]⟩⟩
      intro w0 lm0 vs hvs
      have hvl:=hvs.length
      refine calls_of_wp hf hb ?_
      refine hc gf.ntmps c fn.body ⟨entry 0 args,[]⟩ o s' w0.heap.size w0 (L0.plain w0 lm0) ⟨lm0,fun _=>undef⟩ _ w0 _ h1 ho ⟨rfl,?_,rfl,Below.refl _ _,fun _ _=>rfl,fun n v hn=> ?_,fun d o hd=>by simp[get]at hd,fun d o hd=>by simp[get]at hd,⟨fun _=>0,fun d o x b hd=>by simp[get]at hd⟩,fun d e k l xs hd=>by simp[get]at hd,fun _ _ h=>h.elim,fun _ _ h=>h.elim,fun l hl=>by simp[L0.plain]at hl,⟨Ext.refl _ _,Nat.le_refl _,fun b hb=>hb.1.elim,fun b hb=>hb.1.elim⟩⟩ ?_
      · simp; omega
      · obtain⟨x,rfl,_,hx⟩:=Tlu hn
        simp only[Nat.sub_zero]at hx
        obtain⟨u,hu,hrep⟩:=hvs.get _ _ hx
        refine⟨u,?_,hrep⟩
        have hlt:n<vs.length:= (List.getElem?_eq_some_iff.1 hu).1
        rw[Array.getElem?_append_left (by simpa using hlt)]
        simpa using hu
      · intro g' a' w' S'
        obtain⟨v,lm',q1,q2,q3⟩:=Tlt S' h3 hfin
        have:bodyPost P gf (fun e w'=>∃ u lm',e= .returned u/\Below w0.heap.size w0 w'/\ (∀ b,b<w0.heap.size->lm' b=lm0 b)/\RRep w0.heap.size w' lm' r u) .normal a' w':= ⟨S'.defers,v,q1,v,lm',rfl,S'.below,q2,q3⟩
        rcases hor with rfl | rfl<;> exact this
theorem Ttn {E:Env}(hE:EnvOk P E){k:Nat}(hG:Good P (call E k))(hc:CS P E k)(hr:RS P E k):CS P E (k+1):=by
 intro N c
 induction c with
 | scope x ih =>
  intro ac s o s' base w0 lm0 g a w Q hok h S hK
  refine wp_scope_straight (ih ac s o s' base w0 lm0 g a w _ (by simpa only[okCode]using hok) h S fun g' a' w' S'=> ?_)
  have:=hK g' a' w' S'
  cases o<;> exact this
 | skip =>
  intro ac s o s' base w0 lm0 g a w Q hok h S hK
  cases ac<;> simp only[okCode]at hok<;> first | (simp at hok; done) | skip
  rw[Tsi]at h
  simp only[oIE,Prod.mk.injEq]at h
  obtain⟨rfl,rfl⟩:=h
  exact wp_skip (hK g a w S)
 | label l =>
  intro ac s o s' base w0 lm0 g a w Q hok h S hK
  cases ac<;> simp only[okCode]at hok<;> first | (simp at hok; done) | skip
  rw[Tsi]at h
  simp only[oIE,Prod.mk.injEq]at h
  obtain⟨rfl,rfl⟩:=h
  exact wp_label (hK g a w S)
 | region id ops draw =>
  intro ac s o s' base w0 lm0 g a w Q hok h S hK
  cases ac<;> simp only[okCode]at hok<;> first | (simp at hok; done) | skip
  · rename_i aos keep
    rw[c_reg]at h
    cases hs:steps (call E k) aos s with
    | none=>rw[hs]at h; simp at h
    | some s1 =>
     rw[hs]at h
     simp only[oIE,Prod.mk.injEq]at h
     obtain⟨rfl,rfl⟩:=h
     exact Tgg hE.mixed hG hok S hs fun g' a' w' S'=>let⟨g'',S''⟩:=S'.norm keep; hK g'' a' w' S''
  · rename_i aos keep fz
    rw[Tob]at h
    cases hs:steps (call E k) aos (fz.foldl fz1 s)with
    | none=>rw[hs]at h; simp at h
    | some s1 =>
     rw[hs]at h
     simp only[oIE,Prod.mk.injEq]at h
     obtain⟨rfl,rfl⟩:=h
     obtain⟨g0,S0⟩:=S.fzs fz
     exact Tgg hE.mixed hG hok S0 hs fun g' a' w' S'=>let⟨g'',S''⟩:=S'.norm keep; hK g'' a' w' S''
 | seq x y ihx ihy =>
  intro ac s o s' base w0 lm0 g a w Q hok h S hK
  cases ac<;> simp only[okCode,Bool.and_eq_true]at hok<;> first | (simp at hok; done) | skip
  rename_i x' y'
  rw[c_seq]at h
  cases h1:code E k x' s with
  | none=>rw[h1]at h; simp at h
  | some q =>
   obtain⟨o1,s1⟩:=q
   rw[h1]at h
   refine wp_seq (hc N x x' s o1 s1 base w0 lm0 g a w _ hok.1 h1 S fun g' a' w' S'=> ?_)
   cases o1 with
   | nor=>exact hc N y y' s1 o s' base w0 lm0 g' a' w' Q hok.2 h S' hK
   | ex i =>
    simp only[oIE,Prod.mk.injEq]at h
    obtain⟨rfl,rfl⟩:=h
    exact hK g' a' w' S'
   | ret =>
    simp only[oIE,Prod.mk.injEq]at h
    obtain⟨rfl,rfl⟩:=h
    exact hK g' a' w' S'
 | cond x y z ihy ihz =>
  intro ac s o s' base w0 lm0 g a w Q hok h S hK
  cases ac<;> simp only[okCode,Bool.and_eq_true]at hok<;> first | (simp at hok; done) | skip
  rename_i x' y' z'
  obtain⟨⟨h1,h2⟩,h3⟩:=hok
  rw[c_ite]at h
  split at h
  · rename_i b hv
    have hb:=Tgm (Tag S h1 hv)
    refine wp_cond hb ?_
    cases b with
    | true=>exact hc N y y' s o s' base w0 lm0 g a w Q h2 h S hK
    | false=>exact hc N z z' s o s' base w0 lm0 g a w Q h3 h S hK
  · simp at h
 | block i x ih =>
  intro ac s o s' base w0 lm0 g a w Q hok h S hK
  cases ac<;> simp only[okCode,Bool.and_eq_true,beq_iff_eq]at hok<;> first | (simp at hok; done) | skip
  rename_i j x'
  obtain⟨rfl,h2⟩:=hok
  rw[c_blk]at h
  cases h1:code E k x' s with
  | none=>rw[h1]at h; simp at h
  | some q =>
   obtain⟨o1,s1⟩:=q
   rw[h1]at h
   refine wp_block (hc N x x' s o1 s1 base w0 lm0 g a w _ h2 h1 S fun g' a' w' S'=> ?_)
   cases o1 with
   | nor =>
    simp only[oIE,Prod.mk.injEq]at h
    obtain⟨rfl,rfl⟩:=h
    exact hK g' a' w' S'
   | ex m =>
    dsimp only at h
    by_cases hm:m=i
    · rw[if_pos hm]at h
      simp only[oIE,Prod.mk.injEq]at h
      obtain⟨rfl,rfl⟩:=h
      simp only[exitOf,Exit.inBlock,if_pos hm]
      exact hK g' a' w' S'
    · rw[if_neg hm]at h
      simp only[oIE,Prod.mk.injEq]at h
      obtain⟨rfl,rfl⟩:=h
      simp only[exitOf,Exit.inBlock,if_neg hm]
      exact hK g' a' w' S'
   | ret =>
    simp only[oIE,Prod.mk.injEq]at h
    obtain⟨rfl,rfl⟩:=h
    exact hK g' a' w' S'
 | loop x ih =>
  intro ac s o s' base w0 lm0 g a w Q hok h S hK
  have both:∀(b:Bool) (keep:List Nat) (x':ACode),okCode P N x x'=true->code E (k+1) (lp b keep x') s=some (o,s')-> (Go.Code.loop x).wp P Q a w:=by
   intro b keep x' hok h
   have hl:code E (k+1) (lp b keep x') s=match code E k x' (if b then AM.canon (AM.norm keep s)else AM.norm keep s)with | some (.nor,s')=>code E k (lp b keep x') s' | r=>r:=by cases b<;> rfl
   rw[hl]at h
   obtain⟨g1,S1⟩:∃ g1,Sim base w0 lm0 N g1 a w (if b then AM.canon (AM.norm keep s)else AM.norm keep s):=by
    obtain⟨g1,S1⟩:=S.norm keep
    cases b with
    | false=>exact⟨g1,S1⟩
    | true=>exact S1.canon
   cases h1:code E k x' (if b then AM.canon (AM.norm keep s)else AM.norm keep s)with
   | none=>rw[h1]at h; simp at h
   | some q =>
    obtain⟨o1,s1⟩:=q
    rw[h1]at h
    refine wp_loop_rounds (k+1) ?_
    rw[rounds_succ]
    refine hc N x x' _ o1 s1 base w0 lm0 g1 a w _ hok h1 S1 fun g' a' w' S'=> ?_
    cases o1 with
    | nor=>exact hr N x b keep x' s1 o s' base w0 lm0 g' a' w' Q hok h S' hK
    | ex m =>
     simp only[oIE,Prod.mk.injEq]at h
     obtain⟨rfl,rfl⟩:=h
     exact hK g' a' w' S'
    | ret =>
     simp only[oIE,Prod.mk.injEq]at h
     obtain⟨rfl,rfl⟩:=h
     exact hK g' a' w' S'
  cases ac<;> simp only[okCode]at hok<;> first | (simp at hok; done) | skip
  · exact both false _ _ hok h
  · exact both true _ _ hok h
 | exit i =>
  intro ac s o s' base w0 lm0 g a w Q hok h S hK
  cases ac<;> simp only[okCode,beq_iff_eq]at hok<;> first | (simp at hok; done) | skip
  subst hok
  rw[c_ex]at h
  simp only[oIE,Prod.mk.injEq]at h
  obtain⟨rfl,rfl⟩:=h
  exact wp_exit (hK g a w S)
 | ret =>
  intro ac s o s' base w0 lm0 g a w Q hok h S hK
  cases ac<;> simp only[okCode]at hok<;> first | (simp at hok; done) | skip
  rw[c_ret]at h
  simp only[oIE,Prod.mk.injEq]at h
  obtain⟨rfl,rfl⟩:=h
  exact wp_ret (hK g a w S)
 | rangeFunc=>intro ac s o s' base w0 lm0 g a w Q hok; simp[okCode]at hok
 | goto=>intro ac s o s' base w0 lm0 g a w Q hok; simp[okCode]at hok
 | refuse=>intro ac s o s' base w0 lm0 g a w Q hok; simp[okCode]at hok
theorem Tna {E:Env}{k:Nat}(hc:CS P E k)(hr:RS P E k):RS P E (k+1):=by
 intro N x b keep x' s o s' base w0 lm0 g a w Q hok h S hK
 have hl:code E (k+1) (lp b keep x') s=match code E k x' (if b then AM.canon (AM.norm keep s)else AM.norm keep s)with | some (.nor,s')=>code E k (lp b keep x') s' | r=>r:=by cases b<;> rfl
 rw[hl]at h
 obtain⟨g1,S1⟩:∃ g1,Sim base w0 lm0 N g1 a w (if b then AM.canon (AM.norm keep s)else AM.norm keep s):=by
  obtain⟨g1,S1⟩:=S.norm keep
  cases b with
  | false=>exact⟨g1,S1⟩
  | true=>exact S1.canon
 cases h1:code E k x' (if b then AM.canon (AM.norm keep s)else AM.norm keep s)with
 | none=>rw[h1]at h; simp at h
 | some q =>
  obtain⟨o1,s1⟩:=q
  rw[h1]at h
  rw[rounds_succ]
  refine hc N x x' _ o1 s1 base w0 lm0 g1 a w _ hok h1 S1 fun g' a' w' S'=> ?_
  cases o1 with
  | nor=>exact hr N x b keep x' s1 o s' base w0 lm0 g' a' w' Q hok h S' hK
  | ex m =>
   simp only[oIE,Prod.mk.injEq]at h
   obtain⟨rfl,rfl⟩:=h
   exact hK g' a' w' S'
  | ret =>
   simp only[oIE,Prod.mk.injEq]at h
   obtain⟨rfl,rfl⟩:=h
   exact hK g' a' w' S'
theorem Tlx {E:Env}(hE:EnvOk P E):∀ k,Good P (call E k)/\CS P E k/\RS P E k
 | 0=> ⟨fun f args r h=>by simp[call]at h,fun N c ac s o s' base w0 lm0 g a w Q hok h=>by simp[code]at h,fun N c b keep ac s o s' base w0 lm0 g a w Q hok h=>by simp[code]at h⟩
 | k+1 =>
  let⟨h1,h2,h3⟩:=Tlx hE k
  ⟨Ttm hE h2,Ttn hE h1 h2 h3,Tna h2 h3⟩
theorem Tto {E:Env}(hE:EnvOk P E){f:FuncId}{args:List PV}{r:Ret}(h:Run E f args=some r):CallOK P f args r/\Callable P (realF f r):=by
 obtain⟨k,hk⟩:= (Tdh ..).1 h
 exact(Tlx hE k).1 f args r hk
end
end Go.Proofs.YtjpibniecllafaaGreat.AM
end
section
namespace Go.Proofs.YtjpibniecllafaaGreat.AM
open Go Go.RowKit Go.ChangeShapes Go.WideShapes
inductive Sh where
 | i (k:IntKind)
 | bl
 | tx
 | sl (e:List Sh)
inductive PSh where
 | one (s:Sh)
 | st (l:List Sh)
mutual
def okSh (P:Program):Nat->TypeId->List Sh->Bool
 | 0,_,_=>false
 | d+1,t,shs=>match P.underlying t with
  | some (.int k)=> (match shs with | [.i k']=>decide (k=k') | _=>false)
  | some .bool=> (match shs with | [.bl]=>true | _=>false)
  | some .string=> (match shs with | [.tx]=>true | _=>false)
  | some (.slice e)=> (match shs with | [.sl es]=>okSh P d e es&&P.cellsOf e == es.length&&decide (0<es.length) | _=>false)
  | some (.struct fs)=>okFds P d fs.toList 0 shs&&P.cellsOf t == shs.length
  | _=>false
def okFds (P:Program):Nat->List Field->Nat->List Sh->Bool
 | 0,_,_,_=>false
 | _+1,[],_,shs=>shs.isEmpty
 | d+1,f::fs,off,shs=>f.offset == off&&decide (P.cellsOf f.type<=shs.length)&&okSh P d f.type (shs.take (P.cellsOf f.type))&&okFds P d fs (off+P.cellsOf f.type) (shs.drop (P.cellsOf f.type))
end
mutual
inductive WT:Sh->PV->Prop
 | i {k n}: (Lit.int k n).wf=true->WT (.i k) (.sc (.int k n))
 | b {x}:WT .bl (.sc (.bool x))
 | s {x:ByteArray}:x.size<=maxLen->WT .tx (.sc (.string x))
 | sl {es l}:l.length<=maxLen->WTR es l->WT (.sl es) (.sl es.length l)
inductive WTL:List Sh->List PV->Prop
 | nil:WTL [] []
 | cons {s x ss xs}:WT s x->WTL ss xs->WTL (s::ss) (x::xs)
inductive WTR:List Sh->List (List PV)->Prop
 | nil {es}:WTR es []
 | cons {es c l}:WTL es c->WTR es l->WTR es (c::l)
end
theorem WTL.length:∀ {ss xs},WTL ss xs->ss.length=xs.length
 | _,_,.nil=>rfl
 | _,_,.cons _ h=>by simp[h.length]
theorem WTL.append:∀ {a x},WTL a x->∀ {b y},WTL b y->WTL (a++b) (x++y)
 | _,_,.nil,_,_,h=>h
 | _,_,.cons h k,_,_,h'=> .cons h (k.append h')
theorem WTR.snoc {es:List Sh}:∀ {l:List (List PV)} {c},WTR es l->WTL es c->WTR es (l++ [c])
 | [],_,.nil,h=> .cons h .nil
 | _::_,_,.cons h k,h'=> .cons h (k.snoc h')
theorem WTR.len {es:List Sh}:∀ {l:List (List PV)},WTR es l->∀ c∈l,c.length=es.length
 | [],_,c,hc=>by simp at hc
 | a::l,.cons h k,c,hc=>by
  rcases List.mem_cons.1 hc with rfl | hc
  · exact h.length.symm
  · exact k.len c hc
def lmOf (w:World)(b:Nat):Nat:=match w.heap[b]? with | some (.cells c _ _)=>c.size | _=>0
theorem T1b {w:World}{b o:Nat}{u:Value}(h:w.cell? ⟨b,o,none⟩=some u):o<lmOf w b:=by
 unfold World.cell? at h
 unfold lmOf
 dsimp only at h
 split at h
 · rename_i c e f hb
   rw[hb]
   simp at h
   exact(Array.getElem?_eq_some_iff.1 h).1
 · simp at h
theorem Tqv {w:World}{base:Nat}{a:Addr}{n:Nat}{cs:List Value}(h:w.cells? base a n=some cs):cs.length=n/\∀(i:Nat) (u:Value),cs[i]?=some u->w.cell? (a.add i)=some u:=by
 unfold World.cells? at h
 split at h
 · refine⟨by simpa using mapM_some_length h,fun i u hu=> ?_⟩
   have hi:i<n:=by
    have:= (List.getElem?_eq_some_iff.1 hu).1
    have hl:=mapM_some_length h
    simp at hl
    omega
   have:=mapM_some_get h i i (by simp[hi])
   rw[this,hu]
 · simp at h
theorem Txn {w:World}{a:Addr}{i:Nat}{u:Value}(h:w.cell? (a.add i)=some u)(h0:i=0->a.spot=none):w.cell? ⟨a.block,a.off+i,none⟩=some u:=by
 unfold Addr.add at h
 split at h
 · rename_i hi
   subst hi
   have:=h0 rfl
   obtain⟨b,o,sp⟩:=a
   simp only at this
   subst this
   simpa using h
 · exact h
theorem T1c {w:World}{a:Addr}{u:Value}(h:w.cell? (a.add 0)=some u):a.spot=none:=by
 simp only[Addr.add,if_pos]at h
 unfold World.cell? at h
 split at h
 · cases hs:a.spot with
   | none=>rfl
   | some x=>simp[hs]at h
 · simp at h
section
variable {H:Type}{enc:TypeId×Value->H}{P:Program}{w:World}{base:Nat}{spare:Nat->Bool}{held:Bool}
theorem Tkb : ∀(d:Nat),(∀(t:TypeId) (shs:List Sh) (fuel:Nat) (cs:List Value) (x:DataW H×List MemPlace),okSh P d t shs=true->DataW.trod enc P w base spare held fuel t cs=some x->∃ pvs,RepL w (lmOf w) pvs cs/\WTL shs pvs/\∀ u∈cs,u.oneCell'=true) /\
 (∀(fs:List Field) (off:Nat) (shs:List Sh) (n:Nat) (cs:List Value),okFds P d fs off shs=true->cs.length=off+shs.length-> (∀ f∈fs,∃ x,DataW.trod enc P w base spare held n f.type ((cs.drop f.offset).take (P.cellsOf f.type))=some x)->∃ pvs,RepL w (lmOf w) pvs (cs.drop off)/\WTL shs pvs/\∀ u∈cs.drop off,u.oneCell'=true)
 | 0=> ⟨fun t shs fuel cs x h=>by simp[okSh]at h,fun fs off shs n cs h=>by simp[okFds]at h⟩
 | d + 1 => by
  obtain⟨ih1,ih2⟩:=Tkb d
  constructor
  · intro t shs fuel cs x hok h
    unfold okSh at hok
    split at hok
    · rename_i k ht
      split at hok
      · rename_i k'
        obtain rfl:k=k':=by simpa using hok
        obtain⟨n,rfl,_,hw⟩:=DataW.trod_int ht h
        exact⟨[.sc (.int k n)],.cons (.sc _) .nil,.cons (.i hw) .nil,fun u hu=>by simp at hu; subst hu; rfl⟩
      · simp at hok
    · rename_i ht
      split at hok
      · obtain⟨b,rfl,_⟩:=DataW.trod_bool ht h
        exact⟨[.sc (.bool b)],.cons (.sc _) .nil,.cons .b .nil,fun u hu=>by simp at hu; subst hu; rfl⟩
      · simp at hok
    · rename_i ht
      split at hok
      · obtain⟨s,rfl,_,hm⟩:=DataW.trod_string ht h
        exact⟨[.sc (.string s)],.cons (.sc _) .nil,.cons (.s hm) .nil,fun u hu=>by simp at hu; subst hu; rfl⟩
      · simp at hok
    · rename_i e ht
      split at hok
      · rename_i es
        simp only[Bool.and_eq_true,beq_iff_eq,decide_eq_true_eq]at hok
        obtain⟨⟨hok,hk⟩,h0⟩:=hok
        rcases DataW.trod_slice ht h with⟨rfl,_⟩ | ⟨a,len,cap,elems,rest,n,_,rfl,_,hb,hl,hm,hlen,hel,_⟩
        · exact⟨[.sl es.length []],.cons .sl0 .nil,.cons (.sl (by simp) .nil) .nil,fun u hu=>by simp at hu; subst hu; rfl⟩
        · have rows:∀ m,m<=len->∃(l:List (List PV)) (vs:List Value),l.length=m/\WTR es l/\RepL w (lmOf w) l.flatten vs/\vs.length=m*es.length/\∀(j:Nat) (u:Value),vs[j]?=some u->w.cell? (a.add j)=some u/\u.oneCell'=true:=by
           intro m
           induction m with
           | zero=>intro _; exact⟨[],[],rfl,.nil,.nil,by simp,fun j u hu=>by simp at hu⟩
           | succ m ihm =>
            intro hm'
            obtain⟨l,vs,e1,e2,e3,e4,e5⟩:=ihm (by omega)
            have:=hel m (by omega)
            rw[List.getElem?_eq_getElem (by omega)]at this
            obtain⟨cs',hc1,hc2⟩:=Option.bind_eq_some_iff.1 this
            obtain⟨pvs,r1,r2,r3⟩:=ih1 e es n cs' _ hok hc2
            obtain⟨hcl,hcg⟩:=Tqv hc1
            refine⟨l++ [pvs],vs++cs',by simp[e1],e2.snoc r2,by simpa using e3.append r1,by rw[List.length_append,hcl,e4,hk,Nat.add_mul]; omega,fun j u hu=> ?_⟩
            rw[List.getElem?_append]at hu
            split at hu
            · exact e5 j u hu
            · rename_i hj
              have h1:=hcg _ u hu
              refine⟨?_,r3 u (List.mem_of_getElem? hu)⟩
              have hadd: (a.add (m*P.cellsOf e)).add (j-vs.length)=a.add j:=by
               rw[e4]at hj ⊢
               rw[hk]
               have e:j=m*es.length+ (j-m*es.length):=by omega
               generalize hq:m*es.length=q at e ⊢
               generalize j-q=r at e ⊢
               subst e
               unfold Addr.add
               by_cases h1:q=0
               · subst h1; simp
               · by_cases h2:r=0
                 · subst h2; simp[h1]
                 · simp[h1,h2]; omega
              rw[hadd]at h1
              exact h1
          obtain⟨l,vs,e1,e2,e3,e4,e5⟩:=rows len (Nat.le_refl _)
          have hmax:l.length<=maxLen:=by omega
          refine⟨[.sl es.length l],.cons ?_ .nil,.cons (.sl hmax e2) .nil,fun u hu=>by simp at hu; subst hu; rfl⟩
          subst e1
          cases l with
          | nil=>exact .sl0
          | cons c l =>
           have hv0:∃ u,vs[0]?=some u:=by
            have:0<vs.length:=by rw[e4]; simp only[List.length_cons,Nat.add_mul]; omega
            exact⟨vs[0],List.getElem?_eq_getElem this⟩
           obtain⟨u0,hu0⟩:=hv0
           have hsp:=T1c (e5 0 u0 hu0).1
           obtain⟨b,o,sp⟩:=a
           simp only at hsp
           subst hsp
           exact .sl h0 (e2.len) e3 (fun j u hu=>by
            obtain⟨q1,q2⟩:=e5 j u hu
            have:=Txn q1 fun _=>rfl
            exact⟨this,T1b this,q2⟩) hl
      · simp at hok
    · rename_i fs ht
      simp only[Bool.and_eq_true,beq_iff_eq]at hok
      obtain⟨xs,n,_,_,hlen,hxl,hf⟩:=DataW.trod_struct ht h
      obtain⟨pvs,r1,r2,r3⟩:=ih2 fs.toList 0 shs n cs hok.1 (by omega) (fun f hfm=>by
       obtain⟨i,hi⟩:=List.getElem?_of_mem hfm
       have hi':fs[i]?=some f:=by simpa using hi
       have:=hf i f hi'
       have hil:i<xs.length:=by
        have:= (Array.getElem?_eq_some_iff.1 hi').1
        omega
       rw[List.getElem?_eq_getElem hil]at this
       exact⟨_,this⟩)
      exact⟨pvs,by simpa using r1,r2,by simpa using r3⟩
    · simp at hok
  · intro fs off shs n cs hok hcl hf
    cases fs with
    | nil =>
     simp only[okFds,List.isEmpty_iff]at hok
     subst hok
     refine⟨[],?_,.nil,?_⟩
     · rw[List.drop_eq_nil_of_le (by simp at hcl; omega)]; exact .nil
     · rw[List.drop_eq_nil_of_le (by simp at hcl; omega)]; simp
    | cons f fs =>
     simp only[okFds,Bool.and_eq_true,beq_iff_eq,decide_eq_true_eq]at hok
     obtain⟨⟨⟨h1,h2⟩,h3⟩,h4⟩:=hok
     subst h1
     obtain⟨x,hx⟩:=hf f (by simp)
     obtain⟨p1,a1,a2,a3⟩:=ih1 _ _ _ _ _ h3 hx
     obtain⟨p2,b1,b2,b3⟩:=ih2 fs _ _ n cs h4 (by rw[List.length_drop]; omega) fun f' hf'=>hf f' (by simp[hf'])
     have e:cs.drop f.offset= (cs.drop f.offset).take (P.cellsOf f.type)++cs.drop (f.offset+P.cellsOf f.type):=by
      rw[← List.drop_drop,List.take_append_drop]
     refine⟨p1++p2,?_,?_,?_⟩
     · rw[e]; exact a1.append b1
     · rw[← List.take_append_drop (P.cellsOf f.type) shs]; exact a2.append b2
     · rw[e]
       intro u hu
       rcases List.mem_append.1 hu with hu | hu
       · exact a3 u hu
       · exact b3 u hu
end
inductive WTA:PSh->PV->Prop
 | one {s x}:WT s x->WTA (.one s) x
 | st {l xs}:WTL l xs->WTA (.st l) (.st xs)
inductive WTAs:List PSh->List PV->Prop
 | nil:WTAs [] []
 | cons {s x ss xs}:WTA s x->WTAs ss xs->WTAs (s::ss) (x::xs)
def okPSh (P:Program)(t:TypeId)(p:PSh):Bool:=decide (P.readableRec t=true)&&decide (t<P.types.size)&&match p with
 | .one s=>okSh P 20 t [s]&& (match P.underlying t with | some (.int _) | some .bool | some .string | some (.slice _)=>true | _=>false)
 | .st l=>okSh P 20 t l&& (match P.underlying t with | some (.struct _)=>true | _=>false)
def okPShs (P:Program):List TypeId->List PSh->Bool
 | [],[]=>true
 | t::ts,p::ps=>okPSh P t p&&okPShs P ts ps
 | _,_=>false
section
variable {H:Type}{enc:TypeId×Value->H}{P:Program}{W:World}
theorem T1d {t:TypeId}{p:PSh}{v:Value}{d:DataW H}{ps:List MemPlace}(hok:okPSh P t p=true)(hv:Value.okWide P W .any 0 t v)(h:DataW.Trod enc P W 0 (fun _=>true) true t v d ps):∃ x,Rep W (lmOf W) x v/\WTA p x:=by
 obtain⟨fuel,hf⟩:=h
 simp only[okPSh,Bool.and_eq_true]at hok
 obtain⟨_,hok⟩:=hok
 cases p with
 | one s =>
  simp only[Bool.and_eq_true]at hok
  obtain⟨h1,h2⟩:=hok
  obtain⟨pvs,r1,r2,_⟩:= (Tkb 20).1 t _ _ _ _ h1 hf
  have hc:v.cells.toList= [v]:=by
   split at h2
   · rename_i k ht; obtain⟨n,rfl⟩:=okWide_int ht hv; rfl
   · rename_i ht; obtain⟨n,rfl⟩:=okWide_bool ht hv; rfl
   · rename_i ht; obtain⟨n,rfl⟩:=okWide_string ht hv; rfl
   · rename_i e ht; obtain⟨a,n,c,rfl⟩:=okWide_slice ht hv; rfl
   · simp at h2
  rw[hc]at r1
  cases r1 with
  | cons hx hl =>
   cases hl
   cases r2 with
   | cons hs hn=>exact⟨_,hx,.one hs⟩
 | st l =>
  simp only[Bool.and_eq_true]at hok
  obtain⟨h1,h2⟩:=hok
  obtain⟨pvs,r1,r2,r3⟩:= (Tkb 20).1 t _ _ _ _ h1 hf
  split at h2
  · rename_i fs ht
    obtain⟨cs,rfl,_⟩:=okWide_struct ht hv
    have:Rep W (lmOf W) (.st pvs) (.agg cs.toList.toArray):= .st (by simpa[Value.cells]using r1) (by simpa[Value.cells]using r3)
    exact⟨.st pvs,by simpa using this,.st r2⟩
  · simp at h2
theorem To5:∀ {ts:List TypeId} {ps:List PSh} {vs:List Value} {ds:List (DataW H)} {q:List MemPlace},okPShs P ts ps=true-> (∀(j:Nat) (t:TypeId) (v:Value),ts[j]?=some t->vs[j]?=some v->Value.okWide P W .any 0 t v) ->
 DataW.TrodAll enc P W 0 (fun _=>true) true ts vs ds q->∃ xs,RepL W (lmOf W) xs vs/\WTAs ps xs
 | [],[],vs,ds,q,hok,hv,h=>by
  obtain⟨rfl,_,_⟩:=trodAll_nil h
  exact⟨[],.nil,.nil⟩
 | [],p::ps,vs,ds,q,hok,hv,h=>by simp[okPShs]at hok
 | t::ts,[],vs,ds,q,hok,hv,h=>by simp[okPShs]at hok
 | t::ts,p::ps,vs,ds,q,hok,hv,h=>by
  simp only[okPShs,Bool.and_eq_true]at hok
  obtain⟨v,vs',d,ds',p1,q1,rfl,rfl,rfl,h1,h2⟩:=trodAll_cons h
  obtain⟨x,a1,a2⟩:=T1d hok.1 (hv 0 t v rfl rfl) h1
  obtain⟨xs,b1,b2⟩:=To5 hok.2 (fun j t' v' ht hv'=>hv (j+1) t' v' (by simpa using ht) (by simpa using hv')) h2
  exact⟨x::xs,.cons a1 b1,.cons a2 b2⟩
theorem Tly {W':World}(hl:laidOutB P=true)(hb:Below W.heap.size W W'):∀ {ts:List TypeId} {ps:List PSh} {vs:List Value} {ds:List (DataW H)} {q:List MemPlace},okPShs P ts ps=true ->
 DataW.TrodAll enc P W 0 (fun _=>true) true ts vs ds q->DataW.TrodAll enc P W' 0 (fun b=>decide (b<W.heap.size)) true ts vs ds q
 | [],[],vs,ds,q,hok,h=>by
  obtain⟨rfl,rfl,rfl⟩:=trodAll_nil h
  exact trodAll_mk0
 | [],p::ps,vs,ds,q,hok,h=>by simp[okPShs]at hok
 | t::ts,[],vs,ds,q,hok,h=>by simp[okPShs]at hok
 | t::ts,p::ps,vs,ds,q,hok,h=>by
  simp only[okPShs,Bool.and_eq_true]at hok
  have hlt:=h.lt
  obtain⟨v,vs',d,ds',p1,q1,rfl,rfl,rfl,h1,h2⟩:=trodAll_cons h
  have hp:=hok.1
  simp only[okPSh,Bool.and_eq_true,decide_eq_true_eq]at hp
  exact trodAll_cons_mk (Below.trod hl hp.1.1 hp.1.2 h1 hb fun x hx=>hlt x (by simp[hx])) (Tly hl hb hok.2 h2)
theorem Txo {E:Env}(hE:EnvOk P E){f:FuncId}{args:Array Value}{xs:List PV}(hr:RepL W (lmOf W) xs args.toList)(h:Run E f xs=some (.val (.sc (.bool true)))) :
 Calls P f args W fun e W'=>e= .returned (.bool true)/\Below W.heap.size W W':=by
 have h1:= (Tto hE h).1 W (lmOf W) args.toList hr
 rw[Array.toArray_toList]at h1
 refine Calls.mono h1 fun e W' he=> ?_
 obtain⟨u,lm',rfl,hb,_,hrr⟩:=he
 refine⟨?_,hb⟩
 have:u= .bool true:=Tgm hrr
 rw[this]
end
end Go.Proofs.YtjpibniecllafaaGreat.AM
end
