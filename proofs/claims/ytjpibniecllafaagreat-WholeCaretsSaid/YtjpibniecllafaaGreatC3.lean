/- Made by pack.py: AMD, AMB, AMC, AMG. No condition but what each says. -/
import Derived.Test.YtjpibniecllafaaGreatC2
import Derived.Lib.RuneBytes
set_option linter.unusedSimpArgs false
set_option linter.unusedVariables false
set_option maxHeartbeats 16000000
section
namespace Go.Proofs.YtjpibniecllafaaGreat.AM
open Go Go.RowKit
section
variable {P:Program}{base:Nat}{w0:World}{lm0:L0}{N:Nat}{g:Gs}{a:Act}{w:World}{s:St}{o:Oper}
theorem Sim.same (S:Sim base w0 lm0 N g a w s){h:List (Nat×Ob)}(hh:∀ d,get h d=get s.h d):Sim base w0 lm0 N g a w ⟨s.t,h⟩ :=
 ⟨S.bas,S.size,S.defers,S.below,S.lm,fun n v hn=>let⟨u,h1,h2⟩:=S.tm n v hn; ⟨u,h1,by rw[show get h=get s.h from funext hh]; exact h2⟩,fun d o hd=>S.ob d o (by rw[← hh]; exact hd),fun d o hd=>S.lt d o (by rw[← hh]; exact hd),let⟨own,hap⟩:=S.ap; ⟨own,fun d o x b hd=>hap d o x b (by rw[← hh]; exact hd)⟩,
  fun d e k l xs hd hw=>by rw[show get h=get s.h from funext hh]at *; exact S.gs d e k l xs hd hw,
  fun v u hq=>by rw[show get h=get s.h from funext hh]; exact S.ov v u hq,S.pn,
  fun l hl=>by rw[show get h=get s.h from funext hh]; exact S.px l hl,by rw[show get h=get s.h from funext hh]; exact S.fr⟩
theorem Sim.dput (S:Sim base w0 lm0 N g a w s){d:Nat}{o o':Ob}(hd:get s.h d=some o)(hlv:o.live=true){w':World}{lm':Nat->Nat}{v':Nat->Value}(hsh:Shp o o')(hvd:v' d=g.v d)(hvs:∀ x,x % 1000000≠d->v' x=g.v x)(hx:Ext w g.lm w' lm')(hb:Below base w w')
 (hbl:∀ b,(∀ x,Ids d o x->blk (g.v x)≠some b)->b<w.heap.size->w'.heap[b]?=w.heap[b]?/\lm' b=g.lm b) (ho:ORep w' ⟨lm',v'⟩ base d o')
 (hap:∃ own:Nat->Nat,∀ d1 o1 x b,get (AM.put s.h d o') d1=some o1->o1.live=true->Ids d1 o1 x->blk (v' x)=some b->own b=x)
 (hkb:∀ b,lm0.K b->Free g (get s.h) b->∀ x,Ids d o' x->blk (v' x)≠some b)
 (hgr:∀ e k l,o'= .gr e k l->∀ xs,w'.ownsRow base e k (v' d) l.length xs->QRepL w' ⟨lm',v'⟩ (get (AM.put s.h d o')) l.flatten xs:=by intro _ _ _ h; cases h) :
 Sim base w0 lm0 N ⟨lm',v'⟩ a w' ⟨s.t,AM.put s.h d o'⟩/\Tr w g (get s.h) w' ⟨lm',v'⟩ (get (AM.put s.h d o')):=by
 have hni:∀ {d1 o1 x},get s.h d1=some o1->d≠d1->Ids d1 o1 x->x % 1000000≠d:=fun h1 hne hi e=>hne (e.symm.trans (hi.mod (S.lt _ _ h1)))
 have T:Tr w g (get s.h) w' ⟨lm',v'⟩ (get (AM.put s.h d o')):= ⟨hx,fun d1 o1 h1=> .inr (by
  by_cases e:d=d1
  · subst e
    rw[hd]at h1
    obtain rfl:=oIj h1
    exact⟨hvd,o',Tac _ _ _,hsh⟩
  · exact⟨hvs _ (hni h1 e (.self _ _)),o1,by rw[Tae _ e]; exact h1,Shp.refl _⟩)⟩
 refine⟨S.turn T hb (fun b h=> ?_) (fun d1 o1 h1=> ?_) (fun d1 o1 h1=> ?_) hap (fun d1 e1 k1 l1 h1=> ?_) (fun b hK hbz hF=> ⟨hbl b (fun x hx=>hF d o x hd hlv hx) hbz,fun d1 o1 x h1 l1 hi=> ?_⟩),T⟩
 · refine(hbl b (fun x hx e=> ?_) (Nat.lt_of_lt_of_le h S.bw)).2
   have:= ((S.ob d o hd).blockI hlv hx e).1
   omega
 · by_cases e:d=d1
   · subst e
     rw[Tac]at h1
     obtain rfl:=oIj h1
     exact ho
   · rw[Tae _ e]at h1
     refine(S.ob d1 o1 h1).keep (fun x hi=>hvs x (hni h1 e hi)) hx fun hl x hi b hbk=> ?_
     exact hbl b (fun y hy=>S.far h1 hd hl hlv hi hy (S.ne h1 hd (Ne.symm e) hi hy) hbk) ((S.ob d1 o1 h1).blockI hl hi hbk).2
 · by_cases e:d=d1
   · subst e; exact S.lt _ _ hd
   · rw[Tae _ e]at h1; exact S.lt _ _ h1
 · by_cases e:d=d1
   · subst e
     rw[Tac]at h1
     exact .inr fun xs hw=>hgr _ _ _ (oIj h1) xs hw
   · rw[Tae _ e]at h1
     refine .inl ⟨h1,hvs _ (hni h1 e (.self _ _)),fun b hbk=> ?_⟩
     exact(hbl b (fun y hy=>S.far h1 hd rfl hlv (.self _ _) hy (S.ne h1 hd (Ne.symm e) (.self _ _) hy) hbk) ((S.ob d1 _ h1).block rfl hbk).2).1
 · by_cases e:d=d1
   · subst e
     rw[Tac]at h1
     obtain rfl:=oIj h1
     exact hkb b hK hF x hi
   · rw[Tae _ e]at h1
     show blk (v' x)≠some b
     rw[hvs _ (hni h1 e hi)]
     exact hF d1 o1 x h1 l1 hi
theorem Sim.kill (S:Sim base w0 lm0 N g a w s){d:Nat}{o:Ob}(hd:get s.h d=some o)(hlv:o.live=true:=by rfl):Sim base w0 lm0 N g a w ⟨s.t,AM.put s.h d .dead⟩/\Tr w g (get s.h) w g (get (AM.put s.h d .dead)):=by
 have T:Tr w g (get s.h) w g (get (AM.put s.h d .dead)):= ⟨Ext.refl _ _,fun d1 o1 h1=>by
  by_cases e:d=d1
  · exact .inl ⟨by subst e; rw[hd]at h1; obtain rfl:=oIj h1; exact hlv,by rw[← e,Tac]⟩
  · exact .inr ⟨rfl,o1,by rw[Tae _ e]; exact h1,Shp.refl _⟩⟩
 refine⟨S.turn T (Below.refl _ _) (fun _ _=>rfl) (fun d1 o1 h1=> ?_) (fun d1 o1 h1=> ?_) ?_ (fun d1 e1 k1 l1 h1=> ?_) (fun b _ _ hF=> ⟨⟨rfl,rfl⟩,fun d1 o1 x h1 l1 hi=> ?_⟩),T⟩
 · by_cases e:d=d1
   · subst e
     rw[Tac]at h1
     obtain rfl:=oIj h1
     trivial
   · rw[Tae _ e]at h1; exact S.ob _ _ h1
 · by_cases e:d=d1
   · subst e; exact S.lt _ _ hd
   · rw[Tae _ e]at h1; exact S.lt _ _ h1
 · obtain⟨own,hap⟩:=S.ap
   refine⟨own,fun d1 o1 x b h1 l1 hi hb=> ?_⟩
   by_cases e:d=d1
   · subst e
     rw[Tac]at h1
     obtain rfl:=oIj h1
     simp[Ob.live]at l1
   · rw[Tae _ e]at h1
     exact hap d1 o1 x b h1 l1 hi hb
 · by_cases e:d=d1
   · subst e
     rw[Tac]at h1
     simp at h1
   · rw[Tae _ e]at h1
     exact .inl ⟨h1,rfl,fun _ _=>rfl⟩
 · by_cases e:d=d1
   · subst e
     rw[Tac]at h1
     obtain rfl:=oIj h1
     simp[Ob.live]at l1
   · rw[Tae _ e]at h1
     exact hF d1 o1 x h1 l1 hi
theorem Tfo {l:List (List PV)}(h:plainL l=true){p:Nat}{e k:Nat}{r:List (List PV)}:l.flatten[p]?≠some (.ow e k r):=fun hp=>by
 obtain⟨c,hc,hx⟩:=List.mem_flatten.1 (List.mem_of_getElem? hp)
 have:=List.all_eq_true.1 (List.all_eq_true.1 h c hc) _ hx
 simp[PV.noOw]at this
theorem Sim.deepen (S:Sim base w0 lm0 N g a w s){d e k:Nat}{l:List (List PV)}(hd:get s.h d=some (.row e k false l))(hp:plainL l=true):Sim base w0 lm0 N g a w ⟨s.t,AM.put s.h d (.dp e k l)⟩:=by
 obtain⟨h1,h2,⟨xs,h3,h4,h5⟩,h6⟩:=S.ob d _ hd
 refine S.cells hd ⟨rfl,rfl⟩ rfl (fun x hi=> ?_) (Ext.refl _ _) (Below.refl _ _) (fun _ _ _ h=>by cases h) (fun _ _ _=> ⟨rfl,rfl⟩) ⟨h1,h2,⟨xs,h3,h4,h5,fun p e' k' l' hq _=>absurd hq (Tfo hp)⟩,fun b hb=>by simpa using h6 b hb,fun p hq=>absurd hq (Tfo hp)⟩
 rcases hi.dpE with rfl | ⟨p,e1,k1,l1,hq,hk,rfl⟩
 · exact .self _ _
 · exact absurd hq (Tfo hp)
theorem Tww (S:Sim base w0 lm0 N g a w s){t t2 el:TypeId}{k:Nat}(h0:0<k){x y:Operand}{x' y':X}{call:Call}{d:Nat}{r:Eff}(ho:o.op= .call {callee:= .builtin .copy,args:= #[x,y],argTypes:= #[t,t2]})(ht:P.underlying t=some (.slice el))(hk:P.cellsOf el=k)
 (hx:okX x x'=true) (hy:okX y y'=true) (he:eff call s d (.cpyd k x' y')=some r):EffOK P base w0 lm0 N g a w s o r:=by
 simp only[eff]at he
 split at he
 · rename_i d1 off len u hvx hvy
   split at he
   · rename_i k2 ys hel
     split at he
     · rename_i e k' l hd
       split at he
       · rename_i hc
         obtain⟨c1,c2,c3,c4⟩:=hc
         simp only[oIE]at he
         subst he
         have h1':eff call s d (.cpy k x' y')=some ⟨.p (.sc (.int .i64 (min ys.length len:Nat))),[(d1,.row e k' false (l.take off++ys.take len++l.drop (off+min ys.length len)))]⟩:=by
          simp only[eff,hvx,hvy,hel,hd]
          rw[if_pos ⟨c1,c2,c3⟩]
         obtain⟨v,w',g',hrun,S',R'⟩:=Tsz S h0 ho ht hk hx hy h1'
         have S2:=S'.deepen (d:=d1) (by simp only[putAll]; exact Tac _ _ _) c4
         refine⟨v,w',g',hrun,S2.same fun q=> ?_,R'⟩
         simp only[putAll,Tbf]
         split<;> rfl
       · simp at he
     · simp at he
   · simp at he
 · simp at he
theorem Sim.drow (S:Sim base w0 lm0 N g a w s){d e k:Nat}{l:List (List PV)}(hd:get s.h d=some (.dp e k l)){i j:Nat}{u:Value}(hr:SRep w g (get s.h) (.mp d i j) u) :
 0<k/\ (∀ c∈l,c.length=k)/\∃ b xs,u= .pointer (some ⟨b,i*k+j,none⟩)/\blk (g.v d)=some b/\w.ownsRow base e k (g.v d) l.length xs/\RepL w g.lm l.flatten xs/\ (∀ u∈xs,u.oneCell'=true) /\
  ∀ p e' k' l',l.flatten[p]?=some (.ow e' k' l')->0<k'->xs[p]?=some (g.v (nid d p))/\RowR w g base (nid d p) e' k' l':=by
 obtain⟨h1,h2,⟨xs,h3,h4,h5,h7⟩,h6⟩:=S.ob d _ hd
 simp only[SRep,hd]at hr
 obtain⟨b,hb,rfl⟩:=hr
 exact⟨h1,h2,b,xs,rfl,hb,h3,h4,h5,h7⟩
theorem Twx (S:Sim base w0 lm0 N g a w s){t:TypeId}{x:Operand}{y:X}{e:Eff}{call:Call}{d:Nat}(ho:o.op= .load t x)(ha:aggT P t=some false)(hx:okX x y=true)
 (he:eff call s d (.ld1d y)=some e):EffOK P base w0 lm0 N g a w s o e:=by
 simp only[eff]at he
 split at he
 · rename_i d' i j hv
   split at he
   · rename_i e' k l hd
     split at he
     · rename_i c hc
       split at he
       · simp only[oIE]at he
         subst he
         obtain⟨h0,hk,b,xs,hu,hb,hown,hrl,h1,h7⟩:=S.drow hd (Tag S hx hv)
         obtain⟨v0,hv0,hrep⟩:=hrl.get _ _ (Tb4 hk hc)
         refine EffOK.pure S (u:=v0) ?_ hrep
         have:=Tc6 ha (Ta5 hown hb hv0)
         simp[execOp,ho,hu,this]
       · simp at he
     · simp at he
   · simp at he
 · simp at he
theorem T0o (S:Sim base w0 lm0 N g a w s){t:TypeId}{fs:Array Field}{i:Nat}{f:Field}{x:Operand}{y:X}{off:Nat}{call:Call}{d:Nat}{e:Eff}(ho:o.op= .fieldAddr t x i)(ht:P.underlying t=some (.struct fs))(hf:fs[i]?=some f)(hoff:f.offset=off)(h0:0<P.cellsOf f.type)(hx:okX x y=true)
 (he:eff call s d (.fad y off)=some e):EffOK P base w0 lm0 N g a w s o e:=by
 have hrun:∀ b of,a.eval x= .pointer (some ⟨b,of,none⟩)-> (execOp a.eval o).run P w= .ok (.value (.pointer (some ⟨b,of+off,none⟩))) w:=by
  intro b of hu
  simp[execOp,ho,hu,Instr.fieldAt,run_underlying ht,hf,Instr.sureAddr,Tc1 h0,hoff]
 simp only[eff]at he
 split at he
 · rename_i d' i' j hv
   split at he
   · rename_i e' k l hd
     simp only[oIE]at he
     subst he
     obtain⟨_,_,b,xs,hu,hb,_⟩:=S.drow hd (Tag S hx hv)
     refine EffOK.pure S (hrun b _ hu) ?_
     simp only[SRep,hd]
     exact⟨b,hb,by rw[Nat.add_assoc]⟩
   · simp at he
 · simp at he
theorem T0p (S:Sim base w0 lm0 N g a w s) {t el:TypeId} {x i:Operand} {y j:X} {k:Nat} {call:Call} {d:Nat} {e:Eff} (ho:o.op= .indexAddr t x i) (ht:P.underlying t=some (.slice el)) (hk:P.cellsOf el=k) (h0:0<k) (hx:okX x y=true) (hi:okX i j=true)
 (he:eff call s d (.iad k y j)=some e):EffOK P base w0 lm0 N g a w s o e:=by
 simp only[eff]at he
 split at he
 · rename_i d' off len u hv hw
   split at he
   · rename_i n hn
     split at he
     · rename_i e' k' l hd
       split at he
       · rename_i hc
         obtain⟨rfl,hlt⟩:=hc
         simp only[oIE]at he
         subst he
         obtain⟨ki,hi'⟩:=Tbg S hi hw hn
         have hr:=Tag S hx hv
         simp only[SRep,hd]at hr
         obtain⟨hle,hr⟩:=hr
         obtain⟨h1,h2,⟨xs,h3,h4,h5,h7⟩,h6⟩:=S.ob d' _ hd
         have hb:∃ b cap,blk (g.v d')=some b/\a.eval x= .slice (some ⟨b,off*k',none⟩) len cap:=by
          rcases hr with⟨rfl,rfl,hu⟩ | ⟨_,ad,cap,hu,_,hz⟩
          · rcases h3.2 with⟨hv0,h0'⟩ | ⟨b,cap,cur,hv0,_⟩
            · omega
            · exact⟨b,cap,by rw[hv0]; rfl,by rw[hu,hv0]; simp⟩
          · rcases hz with hz | ⟨b,hb,rfl⟩
            · omega
            · exact⟨b,cap,hb,hu⟩
         obtain⟨b,cap,hb,hu⟩:=hb
         have hrun: (execOp a.eval o).run P w= .ok (.value (.pointer (some ⟨b,off*k'+n*k',none⟩))) w:=by
          have h1: (0:Int)<= (n:Int)/\ (n:Int)< (len:Int):=by omega
          simp[execOp,ho,hu,hi',Instr.indexAt,run_underlying ht,asIntOf,h1,Tao hk h0,add_n,hlt]
         refine EffOK.pure S hrun ?_
         simp only[SRep,hd]
         exact⟨b,hb,by rw[Nat.add_mul,Nat.add_zero]⟩
       · simp at he
     · simp at he
   · simp at he
 · simp at he
theorem Twy (S:Sim base w0 lm0 N g a w s) {t el:TypeId} {x:Operand} {y:X} {call:Call} {d:Nat} {e:Eff} (ho:o.op= .call {callee:= .builtin .len,args:= #[x],argTypes:= #[t]})
 (ht:P.underlying t=some (.slice el)) (hx:okX x y=true) (he:eff call s d (.lend y)=some e):EffOK P base w0 lm0 N g a w s o e:=by
 simp only[eff]at he
 split at he
 · rename_i d' off n hv
   split at he
   · rename_i e' k l hd
     simp only[oIE]at he
     subst he
     have hr:=Tag S hx hv
     simp only[SRep,hd]at hr
     obtain⟨hle,hr⟩:=hr
     obtain⟨h1,h2,⟨xs,h3,h4,h5,h7⟩,h6⟩:=S.ob d' _ hd
     have hu:∃ ad cap,a.eval x= .slice ad n cap:=by
      rcases hr with⟨_,rfl,hu⟩ | ⟨_,ad,cap,hu,_⟩
      · rcases h3.2 with⟨hv0,h0'⟩ | ⟨b,cap,cur,hv0,_⟩
        · exact⟨none,0,by rw[hu,hv0,h0']⟩
        · exact⟨_,cap,by rw[hu,hv0]⟩
      · exact⟨ad,cap,hu⟩
     obtain⟨ad,cap,hu⟩:=hu
     exact EffOK.pure S (u:= .int .i64 n) (by simp[execOp,ho,hu,resolve,invoke,builtin,Builtin.len_,run_underlying ht,goInt]) (.sc _)
   · simp at he
 · simp at he
theorem Ts0 (S:Sim base w0 lm0 N g a w s) {x:Operand} {y z:X} {call:Call} {d:Nat} {e:Eff} (ho:o.op= .move x∨o.op= .assign x) (hx:okX x y=true) (he:eff call s d (.mvs y z)=some e):EffOK P base w0 lm0 N g a w s o e:=by
 simp only[eff]at he
 split at he
 · rename_i v d' off len hv hz
   split at he
   · rename_i e' k l hd
     split at he
     · rename_i hok
       simp only[oIE]at he
       subst he
       obtain⟨own,hap⟩:=S.ap
       obtain⟨lm2,X2,L2,O2⟩:=Tla (S.ob d' _ hd) hok (S.lt _ _ hd) ⟨own,fun x b hi hb=>hap d' _ x b hd rfl hi hb⟩
       have S2:=S.cells (lm':=lm2) hd (o':= .row e' k false (setL l)) ⟨rfl,by simp[setL]⟩ rfl (fun x hi=>by rw[hi.plain rfl]; exact .self _ _) X2 (Below.refl _ _) (fun _ _ _ h=>by cases h) (fun b hb _=> ⟨rfl,L2 b hb⟩) O2
       obtain⟨lm3,S3,T3,_⟩:=S2.freeze (d:=d') (Tac _ _ _)
       have gt:∀ q,get (AM.put s.h d' (.row e' k true (setL l))) q=get (AM.put (AM.put s.h d' (.row e' k false (setL l))) d' (.row e' k true (setL l))) q:=fun q=>by
        simp only[Tbf]; split<;> rfl
       have S4:=S3.same gt
       have T4:Tr w g (get s.h) w ⟨lm3,g.v⟩ (get (AM.put s.h d' (.row e' k true (setL l)))):= ⟨X2.trans T3.ext,fun d1 o1 h1=> .inr ⟨rfl,by
        by_cases e:d'=d1
        · subst e
          rw[hd]at h1
          obtain rfl:=oIj h1
          exact⟨_,Tac _ _ _,rfl,by simp[setL]⟩
        · exact⟨o1,by rw[Tae _ e]; exact h1,Shp.refl _⟩⟩⟩
       refine⟨a.eval x,w,_,.inl ?_,S4,(Tag S hx hv).tr T4⟩
       rcases ho with ho | ho<;> simp[execOp,ho]
     · simp at he
   · simp at he
 · simp at he
theorem Tli {l:List (List PV)}{k i j:Nat}{c0:PV}(hk:∀ c∈l,c.length=k)(hc:cellAt l i j=some c0)(x:PV): (putC l i j x).flatten=l.flatten.set (i*k+j) x/\ (putC l i j x).length=l.length/\ (∀ c∈putC l i j x,c.length=k)/\i*k+j<l.flatten.length:=by
 unfold cellAt at hc
 split at hc
 · rename_i c hl
   have hil:i<l.length:= (List.getElem?_eq_some_iff.1 hl).1
   have hck:c.length=k:=hk c (List.mem_of_getElem? hl)
   have hj:j<k:=by rw[← hck]; exact(List.getElem?_eq_some_iff.1 hc).1
   have hfl:=Tap hk
   have hlt:i*k+j<l.flatten.length:=by
    rw[hfl]
    have:=Nat.mul_le_mul_right k (show i+1<=l.length from hil)
    rw[Nat.add_mul,Nat.one_mul]at this
    omega
   have hp:putC l i j x=l.set i (c.set j x):=by unfold putC; rw[hl]
   rw[hp]
   refine⟨?_,by simp,fun c' hc'=> ?_,hlt⟩
   · rw[Tdk hk hil]
     have hdi: (l.drop i).flatten=c++ (l.drop (i+1)).flatten:=by
      rw[List.drop_eq_getElem_cons hil,List.flatten_cons]; congr 1
      simpa[List.getElem?_eq_getElem hil]using hl
     have e3:l.flatten.drop (i*k+k)= (l.drop (i+1)).flatten:=by
      rw[← List.drop_drop,Tat i hk,hdi]
      conv=>lhs; rw[← hck]
      rw[List.drop_left]
     have e0:l.flatten=l.flatten.take (i*k)++ (c++ (l.drop (i+1)).flatten):=by
      rw[← hdi,← Tat i hk,List.take_append_drop]
     rw[e3]
     conv=>rhs; rw[e0]
     have hlen: (l.flatten.take (i*k)).length=i*k:=by rw[List.length_take]; omega
     rw[List.set_append_right _ _ (by omega),hlen,Nat.add_sub_cancel_left,List.set_append_left _ _ (by omega),List.append_assoc]
   · rcases List.mem_or_eq_of_mem_set hc' with h2 | h2
     · exact hk _ h2
     · rw[h2]; simpa using hck
 · simp at hc
theorem RepL.set {w:World}{lm:Nat->Nat}{l:List PV}{vs:List Value}(h:RepL w lm l vs)(n:Nat){x:PV}{v:Value}(hx:Rep w lm x v):RepL w lm (l.set n x) (vs.set n v):=by
 refine RepL.mk (by simp[h.length]) fun i y u hy hu=> ?_
 rw[List.getElem?_set]at hy hu
 have hl:=h.length
 split at hy
 · rename_i e
   rw[if_pos e]at hu
   split at hy
   · rename_i h1
     rw[if_pos (by omega)]at hu
     obtain rfl:=oIj hy
     obtain rfl:=oIj hu
     exact hx
   · simp at hy
 · rename_i e
   rw[if_neg e]at hu
   obtain⟨v',hv',hr⟩:=h.get i y hy
   rw[hu]at hv'
   obtain rfl:=oIj hv'
   exact hr
theorem RepL.setL {w:World}{lm:Nat->Nat}{l:List PV}{vs:List Value}(h:RepL w lm l vs)(n:Nat){x:PV}(hx:∀ v,vs[n]?=some v->Rep w lm x v):RepL w lm (l.set n x) vs:=by
 refine RepL.mk (by simp[h.length]) fun i y u hy hu=> ?_
 rw[List.getElem?_set]at hy
 split at hy
 · rename_i e
   subst e
   split at hy
   · obtain rfl:=oIj hy
     exact hx u hu
   · simp at hy
 · obtain⟨v',hv',hr⟩:=h.get i y hy
   rw[hu]at hv'
   obtain rfl:=oIj hv'
   exact hr
theorem Twz (S : Sim base w0 lm0 N g a w s) {t:TypeId} {x:Operand} {y:X} {e:Eff} {call:Call} {d:Nat} (ho:o.op= .load t x) (ha:aggT P t=some false) (hx:okX x y=true)
 (he:eff call s d (.ld1o y)=some e):EffOK P base w0 lm0 N g a w s o e:=by
 simp only[eff]at he
 split at he
 · rename_i d' i j hv
   split at he
   · rename_i e1 k l hd
     split at he
     · rename_i e' k' l' hc
       split at he
       · rename_i hk'
         cases hid:newId s.h d with
         | none=>rw[hid]at he; simp at he
         | some id =>
          rw[hid]at he
          simp only[oIE]at he
          subst he
          obtain⟨h0,hk,b,xs,hu,hb,hown,hrl,h1,h7⟩:=S.drow hd (Tag S hx hv)
          have hpc:=Tb4 hk hc
          obtain⟨q1,q2⟩:=h7 _ e' k' l' hpc hk'
          obtain⟨f1,f2,f3,f4⟩:=Tli hk hc (.ow 0 0 [])
          have hlmb:= (S.ob d' _ hd).2.2.2.1
          have hselfb:= (S.ob d' _ hd).2.2.2.2
          have hdlt:=S.lt _ _ hd
          have hidn:=Tay hid
          have hidl:=Tbb hid
          have hids:∀ x,Ids d' (.dp e1 k (putC l i j (.ow 0 0 []))) x->Ids d' (.dp e1 k l) x/\x≠nid d' (i*k+j):=by
           intro x hx0
           rcases hx0.dpE with rfl | ⟨p,e2,k2,l2,hp,hk2,rfl⟩
           · exact⟨.self _ _,fun e=>by have:=Tc4 x (i*k+j); omega⟩
           · rw[f1,List.getElem?_set]at hp
             split at hp
             · simp at hp; omega
             · rename_i hne
               exact⟨.dp hp hk2,fun e=>hne (Tjx hdlt hdlt e).2.symm⟩
          have hself:Ids d' (.dp e1 k l) (nid d' (i*k+j)):= .dp hpc hk'
          obtain⟨own,hap⟩:=S.ap
          obtain⟨S1,T1⟩:=S.dput (w':=w) (lm':=g.lm) (v':=g.v) hd rfl (o':= .dp e1 k (putC l i j (.ow 0 0 []))) ⟨rfl,f2.symm⟩ rfl (fun _ _=>rfl) (Ext.refl _ _) (Below.refl _ _) (fun _ _ _=> ⟨rfl,rfl⟩)
           ⟨h0,f3,⟨xs,by rw[f2]; exact hown,by rw[f1]; exact hrl.setL _ fun _ _=> .ow,h1,fun p e2 k2 l2 hp hk2=>by
            rw[f1,List.getElem?_set]at hp
            split at hp
            · simp at hp; omega
            · exact h7 p e2 k2 l2 hp hk2⟩,hlmb,fun p hp=>by
            rw[f1,List.getElem?_set]at hp
            split at hp
            · simp at hp
            · rw[f2]; exact hselfb p hp⟩
           ⟨own,fun d1 o1 x b1 hg1 l1 hi1 hb1=>by
            by_cases e:d'=d1
            · subst e
              rw[Tac]at hg1
              obtain rfl:=oIj hg1
              exact hap d' _ x b1 hd rfl (hids x hi1).1 hb1
            · rw[Tae _ e]at hg1
              exact hap d1 o1 x b1 hg1 l1 hi1 hb1⟩ (fun b _ hF x hi=>hF d' _ x hd rfl (hids x hi).1)
          have hid':d'≠id:=fun e=>by rw[e,hidn]at hd; simp at hd
          have hidn1:get (AM.put s.h d' (.dp e1 k (putC l i j (.ow 0 0 [])))) id=none:=by rw[Tae _ hid']; exact hidn
          let v':Nat->Value:=upd g.v id (g.v (nid d' (i*k+j)))
          have hni:∀ d1 o1 x,get (AM.put s.h d' (.dp e1 k (putC l i j (.ow 0 0 [])))) d1=some o1->Ids d1 o1 x->x≠id:=fun d1 o1 x h1 hi e=>by
           have:=hi.lt (by rw[e]; exact hidl)
           rw[← this,e,hidn1]at h1
           simp at h1
          have T2:Tr w g (get (AM.put s.h d' (.dp e1 k (putC l i j (.ow 0 0 []))))) w ⟨g.lm,v'⟩ (get (AM.put (AM.put s.h d' (.dp e1 k (putC l i j (.ow 0 0 [])))) id (.row e' k' false l'))):= ⟨Ext.refl _ _,fun d1 o1 h1=> .inr ⟨Tbc _ (hni d1 o1 d1 h1 (.self _ _)) _,o1,by rw[Tae _ (fun e=>by rw[← e,hidn1]at h1; simp at h1)]; exact h1,Shp.refl _⟩⟩
          have S2:Sim base w0 lm0 N ⟨g.lm,v'⟩ a w ⟨s.t,AM.put (AM.put s.h d' (.dp e1 k (putC l i j (.ow 0 0 [])))) id (.row e' k' false l')⟩:=by
           refine S1.turn T2 (Below.refl _ _) (fun _ _=>rfl) (fun d1 o1 hg1=> ?_) (fun d1 o1 hg1=> ?_) ⟨fun b=>if own b=nid d' (i*k+j)then id else own b,fun d1 o1 x b1 hg1 l1 hi1 hb1=> ?_⟩ (fun d9 e9 k9 l9 hg9=> ?_) (fun b hK hbz hF=> ⟨⟨rfl,rfl⟩,fun d1 o1 x hg1 l1 hi1 hb1=> ?_⟩)
           · by_cases e:id=d1
             · subst e
               rw[Tac]at hg1
               obtain rfl:=oIj hg1
               obtain⟨r1,r2,⟨ys,r3,r4,r5⟩,r6⟩:=q2
               refine⟨r1,r2,⟨ys,by simp only[v',Tai]; exact r3,r4,r5⟩,fun b1 hb1=> ?_⟩
               simp only[v',Tai]at hb1
               simpa using r6 b1 hb1
             · rw[Tae _ e]at hg1
               exact(S1.ob d1 o1 hg1).keep (fun x hi=>Tbc _ (hni d1 o1 x hg1 hi) _) (Ext.refl _ _) fun _ _ _ _ _=> ⟨rfl,rfl⟩
           · by_cases e:id=d1
             · subst e; exact hidl
             · rw[Tae _ e]at hg1; exact S1.lt _ _ hg1
           · dsimp only
             by_cases e:id=d1
             · subst e
               rw[Tac]at hg1
               obtain rfl:=oIj hg1
               obtain rfl:=hi1.plain rfl
               simp only[v',Tai]at hb1
               exact if_pos (hap d' _ _ b1 hd rfl hself hb1)
             · rw[Tae _ e]at hg1
               have hxi:=hni d1 o1 x hg1 hi1
               simp only[v',Tbc _ hxi]at hb1
               by_cases e2:d'=d1
               · subst e2
                 rw[Tac]at hg1
                 obtain rfl:=oIj hg1
                 obtain⟨i1,i2⟩:=hids x hi1
                 have:=hap d' _ x b1 hd rfl i1 hb1
                 rw[this,if_neg i2]
               · rw[Tae _ e2]at hg1
                 have:=hap d1 o1 x b1 hg1 l1 hi1 hb1
                 rw[this,if_neg]
                 exact fun e3=>S.ne hd hg1 e2 hself hi1 e3.symm
           · by_cases e:id=d9
             · subst e
               rw[Tac]at hg9
               simp at hg9
             · rw[Tae _ e]at hg9
               exact .inl ⟨hg9,Tbc _ (hni d9 _ d9 hg9 (.self _ _)) _,fun _ _=>rfl⟩
           · by_cases e:id=d1
             · subst e
               rw[Tac]at hg1
               obtain rfl:=oIj hg1
               obtain rfl:=hi1.plain rfl
               simp only[v',Tai]at hb1
               exact S.fr.kd b hK d' _ _ hd rfl hself hb1
             · rw[Tae _ e]at hg1
               have hxi:=hni d1 o1 x hg1 hi1
               simp only[v',Tbc _ hxi]at hb1
               exact hF d1 o1 x hg1 l1 hi1 hb1
          refine⟨g.v (nid d' (i*k+j)),w,_,.inl ?_,S2,?_⟩
          · have:=Tc6 (P:=P) ha (Ta5 hown hb q1)
            simp[execOp,ho,hu,this]
          · have:=Tbh (w':=w) (g':= ⟨g.lm,v'⟩) (h':=AM.put (AM.put s.h d' (.dp e1 k (putC l i j (.ow 0 0 [])))) id (.row e' k' false l')) (Tac _ _ _) (n:=l'.length) rfl
            simp only[v',Tai]at this
            exact this
       · simp at he
     · simp at he
   · simp at he
 · simp at he
theorem Ids.put {d e k p0:Nat}{l:List (List PV)}{l':List (List PV)}{x:PV}(hd:d<1000000)(hf:l'.flatten=l.flatten.set p0 x){y:Nat}(h:Ids d (.dp e k l') y) :
 (y=nid d p0/\∃ e' k' r,x= .ow e' k' r/\0<k')∨ (Ids d (.dp e k l) y/\y≠nid d p0):=by
 rcases h.dpE with rfl | ⟨p,e2,k2,l2,hp,hk2,rfl⟩
 · exact .inr ⟨.self _ _,fun e=>by have:=Tc4 y p0; omega⟩
 · rw[hf,List.getElem?_set]at hp
   by_cases hpe:p0=p
   · subst hpe
     rw[if_pos rfl]at hp
     split at hp
     · exact .inl ⟨rfl,e2,k2,l2,oIj hp,hk2⟩
     · simp at hp
   · rw[if_neg hpe]at hp
     exact .inr ⟨.dp hp hk2,fun e=>hpe (Tjx hd hd e).2.symm⟩
theorem Sim.dstore (S:Sim base w0 lm0 N g a w s) {d e k:Nat} {l:List (List PV)} (hd:get s.h d=some (.dp e k l)) {b:Nat} (hb:blk (g.v d)=some b) {i j:Nat} {c0:PV} (hc:cellAt l i j=some c0) {x:PV} {z:Value} (hz:z.oneCell'=true) (hrx:Rep w g.lm x z) (hx0:x≠ .ow 1 0 []) {v':Nat->Value} (hvs:∀ q,q≠nid d (i*k+j)->v' q=g.v q)
 (hnest:∀ e' k' l',x= .ow e' k' l'->0<k'->v' (nid d (i*k+j))=z/\RowR w ⟨g.lm,v'⟩ base (nid d (i*k+j)) e' k' l'/\∀ b1,blk z=some b1->∀ d1 o1 x1,get s.h d1=some o1->o1.live=true->Ids d1 o1 x1->blk (g.v x1)≠some b1)
 (hkz:∀ e' k' l',x= .ow e' k' l'->0<k'->∀ b1,blk z=some b1->¬ lm0.K b1) :
 ∃ cur:Array Value,w.heap[b]?=some (.cells cur e (0,0))/\i*k+j+1<=cur.size /\
  ∀ new:Array Value,new= (cur.toList.take (i*k+j)++ [z]++cur.toList.drop (i*k+j+1)).toArray ->
  Sim base w0 lm0 N ⟨g.lm,v'⟩ a (w.setRow b new) ⟨s.t,AM.put s.h d (.dp e k (putC l i j x))⟩/\Tr w g (get s.h) (w.setRow b new) ⟨g.lm,v'⟩ (get (AM.put s.h d (.dp e k (putC l i j x)))):=by
 obtain⟨h1,h2,⟨xs,h3,h4,h5,h7⟩,h6,h8⟩:=S.ob d _ hd
 obtain⟨f1,f2,f3,f4⟩:=Tli h2 hc x
 have hdlt:=S.lt _ _ hd
 have hxl:xs.length=l.length*k:=by rw[← h4.length,Tap h2]
 have hfl:=Tap h2
 rcases h3.2 with⟨hv,_⟩ | ⟨b',cap,cur,hv,q1,q2,q3,q4,q5,q6⟩
 · rw[hv]at hb; simp[blk]at hb
 rw[hv]at hb
 simp[blk]at hb
 subst hb
 have hcapk:l.length*k<=cap*k:=Nat.mul_le_mul_right k q3
 refine⟨cur,q2,by omega,?_⟩
 rintro new rfl
 have hset: (cur.toList.take (i*k+j)++ [z]++cur.toList.drop (i*k+j+1))=cur.toList.set (i*k+j) z:=by
  rw[List.set_eq_take_append_cons_drop,if_pos (by simp; omega)]
  simp
 have hnew: (cur.toList.take (i*k+j)++ [z]++cur.toList.drop (i*k+j+1)).toArray.toList.take (l.length*k)=xs.set (i*k+j) z:=by
  rw[List.toList_toArray,hset,List.take_set,q6]
 have hnsz: (cur.toList.take (i*k+j)++ [z]++cur.toList.drop (i*k+j+1)).toArray.size=cap*k:=by
  rw[List.size_toArray,hset,List.length_set]; simpa using q5
 have hnl: (cur.toList.take (i*k+j)++ [z]++cur.toList.drop (i*k+j+1)).toArray.toList=cur.toList.set (i*k+j) z:=by rw[List.toList_toArray,hset]
 generalize(cur.toList.take (i*k+j)++ [z]++cur.toList.drop (i*k+j+1)).toArray=new at hnew hnsz hnl
 have hblk:blk (g.v d)=some b':=by rw[hv]; rfl
 have hlm:g.lm b'=0:=h6 b' hblk
 have hext:Ext w g.lm (w.setRow b' new) g.lm:=by
  exact Ext.blocks fun b2 _ ho'=> ⟨setRow_other w b' b2 new (fun e'=>by subst e'; omega),rfl⟩
 have hvd:v' d=g.v d:=hvs d fun e=>by have:=Tc4 d (i*k+j); omega
 obtain⟨own,hap⟩:=S.ap
 have nested:∀ p e' k' l',l.flatten[p]?=some (.ow e' k' l')->0<k'->blk (g.v (nid d p))≠some b':=fun p e' k' l' hp hk' hbb=>by
  have e1:=hap d _ _ b' hd rfl (.dp hp hk') hbb
  have e2:=hap d _ d b' hd rfl (.self _ _) hblk
  have:=Tc4 d p
  omega
 have keepR:∀ {y e' k' l'},RowR w ⟨g.lm,v'⟩ base y e' k' l'->blk (v' y)≠some b'->RowR (w.setRow b' new) ⟨g.lm,v'⟩ base y e' k' l':=by
  rintro y e' k' l' ⟨r1,r2,⟨ys,r3,r4,r5⟩,r6⟩ hne
  exact⟨r1,r2,⟨ys,Tav r3 fun b2 hb2=>setRow_other w b' b2 new fun e=>hne (by rw[← e]; exact hb2),r4.ext hext,r5⟩,r6⟩
 refine S.dput hd rfl ⟨rfl,f2.symm⟩ hvd (fun q hq=>hvs q fun e=>hq (by rw[e]; unfold nid; omega)) hext (below_setRow (Below.refl _ _) q1 _) (fun b2 hb2 _=> ⟨setRow_other w b' b2 new fun e=>hb2 d (.self _ _) (by rw[e]; exact hblk),rfl⟩) ⟨h1,f3,⟨xs.set (i*k+j) z,?_,?_,?_,?_⟩,?_,?_⟩ ?_ (fun b hK hF y hi hb1=>by
  rcases Ids.put hdlt f1 hi with⟨rfl,e',k',r,hxe,hk'⟩ | ⟨i1,i2⟩
  · obtain⟨r1,_,_⟩:=hnest e' k' r hxe hk'
    rw[r1]at hb1
    exact hkz e' k' r hxe hk' b hb1 hK
  · rw[hvs y i2]at hb1
    exact hF d _ y hd rfl i1 hb1)
 · refine⟨by rw[List.length_set,f2]; exact h3.1,.inr ⟨b',cap,new,by dsimp only; rw[hvd,f2]; exact hv,q1,setRow_heap w b' cur _ e _ q2,by rw[f2]; exact q3,q4,hnsz,by rw[f2]; exact hnew⟩⟩
 · rw[f1]; exact(h4.ext hext).set _ (hrx.ext hext)
 · intro u hu
   rcases List.mem_or_eq_of_mem_set hu with h | h
   · exact h5 u h
   · rw[h]; exact hz
 · intro p e' k' l' hp hk'
   rw[f1,List.getElem?_set]at hp
   by_cases hpe:i*k+j=p
   · subst hpe
     rw[if_pos rfl,if_pos f4]at hp
     obtain⟨r1,r2,r3⟩:=hnest e' k' l' (oIj hp) hk'
     refine⟨?_,keepR r2 fun hbb=> ?_⟩
     · rw[List.getElem?_set,if_pos rfl,if_pos (by omega)]
       dsimp only
       rw[r1]
     · rw[r1]at hbb
       exact r3 b' hbb d _ d hd rfl (.self _ _) hblk
   · rw[if_neg hpe]at hp
     obtain⟨r1,r2⟩:=h7 p e' k' l' hp hk'
     have hne:nid d p≠nid d (i*k+j):=fun e=>hpe (Tjx hdlt hdlt e).2.symm
     have hvp:v' (nid d p)=g.v (nid d p):=hvs _ hne
     refine⟨?_,keepR ?_ ?_⟩
     · rw[List.getElem?_set,if_neg hpe]
       dsimp only
       rw[hvp]; exact r1
     · obtain⟨m1,m2,⟨ys,m3,m4,m5⟩,m6⟩:=r2
       exact⟨m1,m2,⟨ys,by dsimp only; rw[hvp]; exact m3,m4,m5⟩,fun b2 hb2=>m6 b2 (by dsimp only at hb2; rw[hvp]at hb2; exact hb2)⟩
     · rw[hvp]; exact nested p e' k' l' hp hk'
 · intro b2 hb2
   dsimp only at hb2
   rw[hvd]at hb2
   exact h6 b2 hb2
 · intro p hp
   rw[f1,List.getElem?_set]at hp
   by_cases hpe:i*k+j=p
   · rw[if_pos hpe,if_pos f4]at hp
     exact absurd (oIj hp) hx0
   · rw[if_neg hpe]at hp
     obtain⟨b2,z1,z2⟩:=h8 p hp
     have hb2:b2=b':=by
      have h9:blk (g.v d)=some b2:=by rw[z1]; rfl
      rw[hblk]at h9
      exact(oIj h9).symm
     subst hb2
     refine⟨b2,by dsimp only; rw[hvd,f2]; exact z1,?_⟩
     have c1: (w.setRow b2 new).cell? ⟨b2,p,none⟩=w.cell? ⟨b2,p,none⟩:=by
      rw[cell_of_row _ b2 p new e (0,0) (setRow_heap w b2 cur _ e _ q2),cell_of_row w b2 p cur e (0,0) q2,← Array.getElem?_toList,← Array.getElem?_toList,hnl,List.getElem?_set,if_neg hpe]
     rw[c1]; exact z2
 · by_cases hxo:∃ e' k' r,x= .ow e' k' r/\0<k'
   · obtain⟨e',k',r,hxe,hk'⟩:=hxo
     obtain⟨r1,r2,r3⟩:=hnest e' k' r hxe hk'
     refine⟨fun b2=>if blk z=some b2 then nid d (i*k+j)else own b2,fun d1 o1 y b2 hg1 l1 hi1 hb1=> ?_⟩
     dsimp only
     have old:∀ d1 o1,get s.h d1=some o1->o1.live=true->Ids d1 o1 y->y≠nid d (i*k+j)-> (if blk z=some b2 then nid d (i*k+j)else own b2)=y:=by
      intro d1 o1 hg1 l1 hi1 hne
      rw[hvs y hne]at hb1
      rw[if_neg fun hbb=>r3 b2 hbb d1 o1 y hg1 l1 hi1 hb1]
      exact hap d1 o1 y b2 hg1 l1 hi1 hb1
     by_cases e1:d=d1
     · subst e1
       rw[Tac]at hg1
       obtain rfl:=oIj hg1
       rcases Ids.put hdlt f1 hi1 with⟨rfl,_⟩ | ⟨i1,i2⟩
       · rw[r1]at hb1; exact if_pos hb1
       · exact old d _ hd rfl i1 i2
     · rw[Tae _ e1]at hg1
       refine old d1 o1 hg1 l1 hi1 fun e2=>e1 ?_
       have:=hi1.mod (S.lt _ _ hg1)
       rw[e2]at this
       rw[← this]; unfold nid; omega
   · refine⟨own,fun d1 o1 y b2 hg1 l1 hi1 hb1=> ?_⟩
     by_cases e1:d=d1
     · subst e1
       rw[Tac]at hg1
       obtain rfl:=oIj hg1
       rcases Ids.put hdlt f1 hi1 with⟨rfl,h⟩ | ⟨i1,i2⟩
       · exact absurd h hxo
       · rw[hvs y i2]at hb1
         exact hap d _ y b2 hd rfl i1 hb1
     · rw[Tae _ e1]at hg1
       rw[hvs y fun e2=>e1 (by
        have:=hi1.mod (S.lt _ _ hg1)
        rw[e2]at this
        rw[← this]; unfold nid; omega)]at hb1
       exact hap d1 o1 y b2 hg1 l1 hi1 hb1
theorem Tiy {t:TypeId}{x y:Operand}(ho:o.op= .store t x y)(hk:P.cellsOf t=1){b p:Nat}(hu:a.eval x= .pointer (some ⟨b,p,none⟩)){z:Value}(hc: (a.eval y).cells.toList= [z])(hz:z.oneCell'=true){cur:Array Value}{e:Nat}(hg:w.heap[b]?=some (.cells cur e (0,0)))(hp:p+1<=cur.size) :
 (execOp a.eval o).run P w= .ok .skip (w.setRow b (cur.toList.take p++ [z]++cur.toList.drop (p+1)).toArray):=by
 have hsz: (a.eval y).cells.size=1:=by rw[← Array.length_toList,hc]; rfl
 have hst:=run_storeCells_at P b p e (a.eval y).cells.toList 0 cur w hg (by rw[hc]; simpa using hp) (by rw[hc]; intro u hu; simp at hu; rw[hu]; exact hz)
 simp only[Nat.add_zero]at hst
 rw[hc]at hst
 simp only[List.length_singleton]at hst
 simp only[execOp,ho,Instr.storeAt,hu,Instr.sureAddr,storeVar,Sem.run_bind,Sem.run_pure,Result.andThen_ok,Tao hk (by omega),hsz,ne_eq,not_true,if_false,hc,hst]
theorem Tg9 {l:List (List PV)}{k i j:Nat}(hk:∀ c∈l,c.length=k)(hi:i<l.length)(hj:j<k):∃ c,cellAt l i j=some c:=by
 unfold cellAt
 rw[List.getElem?_eq_getElem hi]
 have:=hk _ (List.getElem_mem hi)
 exact⟨_,List.getElem?_eq_getElem (by omega)⟩
theorem Tw0 (S:Sim base w0 lm0 N g a w s) {t:TypeId} {x y:Operand} {x' y':X} {call:Call} {d:Nat} {r:Eff} (ho:o.op= .store t x y) (hk:P.cellsOf t=1) (hx:okX x x'=true) (hy:okX y y'=true) (he:eff call s d (.stod x' y')=some r):EffOK P base w0 lm0 N g a w s o r:=by
 simp only[eff]at he
 split at he
 · rename_i d1 i j y0 hvx hvy
   split at he
   · rename_i e k l c hd hcs
     split at he
     · rename_i hcond
       obtain⟨hi,hj,hno⟩:=hcond
       simp only[oIE]at he
       subst he
       obtain⟨h0,hkk,b,xs,hu,hb,_⟩:=S.drow hd (Tag S hx hvx)
       obtain⟨c0,hc0⟩:=Tg9 hkk hi hj
       have hr:Rep w g.lm y0 (a.eval y):=Tag S hy hvy
       obtain⟨hrl,h1⟩:=hr.cells hcs
       obtain⟨z,hz⟩:∃ z,(a.eval y).cells.toList= [z]:=by
        have:=hrl.length
        simp only[List.length_singleton]at this
        exact List.length_eq_one_iff.1 this.symm
       rw[hz]at hrl h1
       have hz1:=h1 z (by simp)
       have hrz:Rep w g.lm c z:=by cases hrl with | cons h _=>exact h
       obtain⟨cur,hg,hp,fin⟩:=S.dstore hd hb hc0 (x:=c) hz1 hrz (fun hxo=>by rw[hxo]at hno; simp[PV.noOw]at hno) (v':=g.v) (fun _ _=>rfl) (fun e' k' l' hxo _=>by rw[hxo]at hno; simp[PV.noOw]at hno) (fun e' k' l' hxo _=>by rw[hxo]at hno; simp[PV.noOw]at hno)
       obtain⟨S2,T2⟩:=fin _ rfl
       exact⟨undef,_,_,.inr ⟨Tiy ho hk hu hz hz1 hg hp,rfl⟩,S2,Rep.sc _⟩
     · simp at he
   · simp at he
 · simp at he
theorem Ts1 (S:Sim base w0 lm0 N g a w s) {t:TypeId} {x y:Operand} {x' y':X} {call:Call} {d:Nat} {r:Eff} (ho:o.op= .store t x y) (hk:P.cellsOf t=1) (hx:okX x x'=true) (hy:okX y y'=true) (he:eff call s d (.sto1o x' y')=some r):EffOK P base w0 lm0 N g a w s o r:=by
 simp only[eff]at he
 split at he
 · rename_i d1 i j d2 off len hvx hvy
   split at he
   · rename_i e k l e' k' l' hd hd2
     split at he
     · rename_i hcond
       obtain⟨rfl,rfl,hi,hj⟩:=hcond
       simp only[oIE]at he
       subst he
       obtain⟨h0,hkk,b,xs,hu,hb,_⟩:=S.drow hd (Tag S hx hvx)
       obtain⟨c0,hc0⟩:=Tg9 hkk hi hj
       have hr:=Tag S hy hvy
       simp only[SRep,hd2]at hr
       have hz:a.eval y=g.v d2:=by
        obtain⟨_,h | h⟩:=hr
        · exact h.2.2
        · obtain⟨h,_⟩:=h; simp at h
       have hne:d1≠d2:=fun e=>by rw[e,hd2]at hd; simp at hd
       obtain⟨o1,o2,⟨ys,o3,o4,o5⟩,o6⟩:=S.ob d2 _ hd2
       obtain⟨own,hap⟩:=S.ap
       have hzs:∃ ad n cap,g.v d2= .slice ad n cap:=by
        rcases o3.2 with⟨h,_⟩ | ⟨_,_,_,h,_⟩
        · exact⟨_,_,_,h⟩
        · exact⟨_,_,_,h⟩
       obtain⟨ad,n,cap,hzs⟩:=hzs
       have hz1: (g.v d2).oneCell'=true:=by rw[hzs]; rfl
       have hzc: (a.eval y).cells.toList= [g.v d2]:=by rw[hz,hzs]; rfl
       obtain⟨S1,T1⟩:=S.kill hd2
       have hd':get (AM.put s.h d2 .dead) d1=some (.dp e k l):=by rw[Tae _ (Ne.symm hne)]; exact hd
       have hlt1:=S.lt _ _ hd
       let v':Nat->Value:=upd g.v (nid d1 (i*k+j)) (g.v d2)
       obtain⟨cur,hg,hp,fin⟩:=S1.dstore hd' hb hc0 (x:= .ow e' k' l') (z:=g.v d2) hz1 .ow (fun hxo=>by simp only[PV.ow.injEq]at hxo; omega) (v':=v') (fun q hq=>Tbc _ hq _) (fun e2 k2 l2 hxo hk2=>by
        simp only[PV.ow.injEq]at hxo
        obtain⟨rfl,rfl,rfl⟩:=hxo
        have hvn:v' (nid d1 (i*k+j))=g.v d2:=Tai _ _ _
        refine⟨hvn,⟨o1,o2,⟨ys,by dsimp only; rw[hvn]; exact o3,o4,o5⟩,fun b1 hb1=> ?_⟩,fun b1 hb1 q1 oq1 x1 hq1 hl1 hi1 hbx=> ?_⟩
        · dsimp only at hb1
          rw[hvn]at hb1
          simpa using o6 b1 hb1
        · by_cases e3:d2=q1
          · rw[← e3,Tac]at hq1
            obtain rfl:=oIj hq1
            simp[Ob.live]at hl1
          · rw[Tae _ e3]at hq1
            exact S.far hd2 hq1 rfl hl1 (.self _ _) hi1 (S.ne hd2 hq1 e3 (.self _ _) hi1) hb1 hbx) (fun _ _ _ _ _ b1 hb1 hK=>S.fr.kd b1 hK d2 _ d2 hd2 rfl (.self _ _) hb1)
       obtain⟨S2,T2⟩:=fin _ rfl
       exact⟨undef,_,_,.inr ⟨Tiy ho hk hu hzc hz1 hg hp,rfl⟩,S2,Rep.sc _⟩
     · simp at he
   · simp at he
 · simp at he
end
end Go.Proofs.YtjpibniecllafaaGreat.AM
end
section
namespace Go.Proofs.YtjpibniecllafaaGreat.AM
open Go Go.RowKit
def SbWrite (P:Program)(T e:TypeId)(f:FuncId):Prop :=
 ∀(B b:Nat) (p v:Value) (bs:List Value) (t:ByteArray) (w:World),B<=b->B<=w.heap.size-> (p= .pointer none∨p= .pointer (some ⟨b,0,none⟩))->w.heap[b]?=some (.cells #[p,v] T (0,0))->w.ownsRow B e 1 v bs.length bs->blk v≠some b->bs.length+t.size<=maxBytes ->
  Calls P f #[.pointer (some ⟨b,0,none⟩),.string t] w fun x w'=>x= .returned (.tuple #[.int .i64 t.size,.nilIface])/\∃ v',w'.heap[b]?=some (.cells #[.pointer (some ⟨b,0,none⟩),v'] T (0,0))/\w'.ownsRow B e 1 v' (bs.length+t.size) (bs++t.data.toList.map fun c=>Value.int .u8 c.toNat)/\ (blk v'=blk v∨∃ c,blk v'=some c/\w.heap.size<=c)/\Below B w w'/\∀ k,k<w.heap.size->k≠b->blk v≠some k->w'.heap[k]?=w.heap[k]?
def SbRune (P:Program)(T e:TypeId)(f:FuncId):Prop :=
 ∀(B b:Nat) (p v:Value) (bs:List Value) (r:Int) (w:World),-2147483648<=r->r<=2147483647->B<=b->B<=w.heap.size-> (p= .pointer none∨p= .pointer (some ⟨b,0,none⟩))->w.heap[b]?=some (.cells #[p,v] T (0,0))->w.ownsRow B e 1 v bs.length bs->blk v≠some b->bs.length+4<=maxBytes ->
  Calls P f #[.pointer (some ⟨b,0,none⟩),.int .i32 r] w fun x w'=>x= .returned (.tuple #[.int .i64 (Lib.runeCells r).length,.nilIface])/\∃ v',w'.heap[b]?=some (.cells #[.pointer (some ⟨b,0,none⟩),v'] T (0,0))/\w'.ownsRow B e 1 v' (bs.length+ (Lib.runeCells r).length) (bs++Lib.runeCells r)/\ (blk v'=blk v∨∃ c,blk v'=some c/\w.heap.size<=c)/\Below B w w'/\∀ k,k<w.heap.size->k≠b->blk v≠some k->w'.heap[k]?=w.heap[k]?
def SbPut (P:Program)(T e:TypeId)(f:FuncId)(u:Value)(cs:List Value):Prop :=
 ∀(B b:Nat) (p v:Value) (bs:List Value) (w:World),B<=b->B<=w.heap.size-> (p= .pointer none∨p= .pointer (some ⟨b,0,none⟩))->w.heap[b]?=some (.cells #[p,v] T (0,0))->w.ownsRow B e 1 v bs.length bs->blk v≠some b->bs.length+cs.length+4<=maxBytes ->
  Calls P f #[.pointer (some ⟨b,0,none⟩),u] w fun x w'=>x= .returned (.tuple #[.int .i64 cs.length,.nilIface])/\∃ v',w'.heap[b]?=some (.cells #[.pointer (some ⟨b,0,none⟩),v'] T (0,0))/\w'.ownsRow B e 1 v' (bs.length+cs.length) (bs++cs)/\ (blk v'=blk v∨∃ c,blk v'=some c/\w.heap.size<=c)/\Below B w w'/\∀ k,k<w.heap.size->k≠b->blk v≠some k->w'.heap[k]?=w.heap[k]?
theorem SbWrite.put {P:Program}{T e:TypeId}{f:FuncId}(h:SbWrite P T e f)(t:ByteArray):SbPut P T e f (.string t) (t.data.toList.map fun c=>Value.int .u8 c.toNat):=by
 intro B b p v bs w h1 h2 h3 h4 h5 h6 h7
 have hl: (t.data.toList.map fun c=>Value.int .u8 c.toNat).length=t.size:=by simp
 rw[hl]at h7 ⊢
 exact h B b p v bs t w h1 h2 h3 h4 h5 h6 (by omega)
theorem SbRune.put {P:Program}{T e:TypeId}{f:FuncId}(h:SbRune P T e f)(r:Int)(r0: -2147483648<=r)(r1:r<=2147483647):SbPut P T e f (.int .i32 r) ((Lib.encodeRune r).map fun c=>Value.int .u8 c.toNat):=by
 intro B b p v bs w h1 h2 h3 h4 h5 h6 h7
 have hl: ((Lib.encodeRune r).map fun c=>Value.int .u8 c.toNat)=Lib.runeCells r:=Lib.byteCells_encodeRune r
 rw[hl]at h7 ⊢
 exact h B b p v bs r w r0 r1 h1 h2 h3 h4 h5 h6 (by omega)
def SbString (P:Program)(T e:TypeId)(f:FuncId):Prop :=
 ∀(B b:Nat) (p v:Value) (l:List UInt8) (w:World),B<=b->B<=w.heap.size-> (p= .pointer none∨p= .pointer (some ⟨b,0,none⟩))->w.heap[b]?=some (.cells #[p,v] T (0,0))->w.ownsRow B e 1 v l.length (l.map fun c=>Value.int .u8 c.toNat)->blk v≠some b ->
  Calls P f #[.pointer (some ⟨b,0,none⟩)] w fun x w'=>x= .returned (.string ⟨l.toArray⟩)/\Below B w w'/\∀ k,k<w.heap.size->blk v≠some k->w'.heap[k]?=w.heap[k]?
theorem Tcm {d T e x:Nat}{l:List (List PV)}:Ids d (.dp T 2 (sbRow e l)) x↔x=d∨x=nid d 1:=by
 constructor
 · intro h0
   rcases h0.dpE with h | ⟨p,e',k',l',hp,hk,rfl⟩
   · exact .inl h
   · right
     congr 1
     rcases p with _ | _ | p
     · simp[sbRow]at hp; omega
     · rfl
     · simp[sbRow]at hp
 · rintro(h | h)
   · exact .inl h
   · rw[h]; exact .dp (p:=1) (e':=e) (k':=1) (l':=l) (by simp[sbRow]) (by omega)
theorem Tw1 {w:World}{base e n:Nat}{v:Value}{xs:List Value}{k:Nat}(h:w.ownsRow base e k v n xs):v.oneCell'=true:=by
 rcases h.2 with⟨rfl,_⟩ | ⟨_,_,_,rfl,_⟩<;> rfl
theorem Tiz {w:World}{g:Gs}{base d T e b:Nat}{p v:Value}{l:List (List PV)}(hv:g.v d= .slice (some ⟨b,0,none⟩) 1 1)(hbb:base<=b)(hg:w.heap[b]?=some (.cells #[p,v] T (0,0)))(hp:p= .pointer none∨p= .pointer (some ⟨b,0,none⟩))(hn:g.v (nid d 1)=v)(hR:RowR w g base (nid d 1) e 1 l)(hlm:g.lm b=0) :
 ORep w g base d (.dp T 2 (sbRow e l)):=by
 have hR':=hR
 obtain⟨r1,r2,⟨ys,r3,r4,r5⟩,r6⟩:=hR
 rw[hn]at r3
 have hp1:p.oneCell'=true:=by rcases hp with rfl | rfl<;> rfl
 refine⟨by omega,by simp[sbRow],⟨[p,v],?_,?_,?_,?_⟩,?_,?_⟩
 · refine⟨rfl,.inr ⟨b,1,#[p,v],hv,hbb,hg,Nat.le_refl _,by decide,rfl,rfl⟩⟩
 · exact .cons .ow (.cons .ow .nil)
 · intro u hu
   simp at hu
   rcases hu with rfl | rfl
   · exact hp1
   · exact Tw1 r3
 · intro q e' k' l' hq hk
   match q with
   | 0=>simp[sbRow]at hq; omega
   | 1 =>
    simp[sbRow]at hq
    obtain⟨rfl,rfl,rfl⟩:=hq
    exact⟨by simp[hn],hR'⟩
   | q+2=>simp[sbRow]at hq
 · intro b' hb'
   rw[hv]at hb'
   simp[blk]at hb'
   rw[← hb']; exact hlm
 · intro q hq
   match q with
   | 0 =>
    refine⟨b,hv,?_⟩
    rw[cell_of_row w b 0 _ T (0,0) hg]
    rcases hp with rfl | rfl
    · exact .inl rfl
    · exact .inr rfl
   | 1=>simp[sbRow]at hq
   | q+2=>simp[sbRow]at hq
theorem Ts2 {w:World}{g:Gs}{base d T e:Nat}{l:List (List PV)}(h:ORep w g base d (.dp T 2 (sbRow e l))) :
 ∃ b p v,g.v d= .slice (some ⟨b,0,none⟩) 1 1/\base<=b/\w.heap[b]?=some (.cells #[p,v] T (0,0))/\ (p= .pointer none∨p= .pointer (some ⟨b,0,none⟩))/\g.v (nid d 1)=v/\RowR w g base (nid d 1) e 1 l/\g.lm b=0:=by
 obtain⟨h1,h2,⟨xs,h3,h4,h5,h7⟩,h6,h8⟩:=h
 obtain⟨b,hv,hp⟩:=h8 0 (by simp[sbRow])
 have hv:g.v d= .slice (some ⟨b,0,none⟩) 1 1:=hv
 obtain⟨q1,q2⟩:=h7 1 e 1 l (by simp[sbRow]) (by omega)
 rcases h3.2 with⟨h,_⟩ | ⟨b',cap,cur,h,hb,hg,_,_,hs,ht⟩
 · rw[hv]at h; simp at h
 · rw[hv]at h
   simp only[Value.slice.injEq,oIE,Addr.mk.injEq,and_true]at h
   obtain⟨rfl,_,rfl⟩:=h
   have hl: (sbRow e l).length=1:=rfl
   rw[hl]at ht
   have hcl:cur.toList.length=2:=by simpa using hs
   rw[List.take_of_length_le (by omega)]at ht
   have hc0:=cell_of_row w b 0 cur T (0,0) hg
   match xs,ht,q1 with
   | [x0,x1],ht,q1 =>
    simp at q1
    subst q1
    have hcur:cur= #[x0,g.v (nid d 1)]:=by apply Array.ext'; rw[ht]
    subst hcur
    refine⟨b,x0,_,hv,hb,hg,?_,rfl,q2,h6 b (by rw[hv]; rfl)⟩
    rw[hc0]at hp
    simpa using hp
   | [],ht,q1=>simp at q1
   | [x0],ht,q1=>simp at q1
   | _::_::_::_,ht,q1=>rw[ht]at hcl; simp at hcl
theorem Tog {r:List (List PV)}{e:TypeId}{l:List (List PV)}(h:unRow r=some (e,l)):r=sbRow e l:=by
 unfold unRow at h
 split at h
 · split at h
   · rename_i hc
     obtain⟨rfl,rfl,rfl⟩:=hc
     simp only[oIE,Prod.mk.injEq]at h
     obtain⟨rfl,rfl⟩:=h
     rfl
   · simp at h
 · simp at h
section
variable {P:Program}{base:Nat}{w0:World}{lm0:L0}{N:Nat}{g:Gs}{a:Act}{w:World}{s:St}{o:Oper}
theorem T0q (S:Sim base w0 lm0 N g a w s){T e:TypeId}{z:Value}{call:Call}{d:Nat}{r:Eff}(ho:o.op= .alloc T)(hz: (P.info? T).bind (·.zero)=some z)(hzc:z.cells= #[.pointer none,.slice none 0 0])
 (he:eff call s d (.sbn T e)=some r):EffOK P base w0 lm0 N g a w s o r:=by
 simp only[eff]at he
 cases hid:newId s.h d with
 | none=>rw[hid]at he; simp at he
 | some id =>
  rw[hid]at he
  simp only[oIE]at he
  subst he
  have hidl:=Tbb hid
  have hnn:nid id 1≠id:=fun h=>by have:=Tc4 id 1; omega
  let v':Nat->Value:=upd (upd g.v id (.slice (some ⟨w.heap.size,0,none⟩) 1 1)) (nid id 1) (.slice none 0 0)
  have v1:v' id= .slice (some ⟨w.heap.size,0,none⟩) 1 1:=by simp only[v']; rw[Tbc _ (Ne.symm hnn),Tai]
  have v2:v' (nid id 1)= .slice none 0 0:=Tai _ _ _
  have hl:∀ b,b<w.heap.size->upd g.lm w.heap.size 0 b=g.lm b:=fun b h=>Tbc _ (by omega) _
  have ho2:ORep (w.alloc (.cells z.cells T)) ⟨upd g.lm w.heap.size 0,v'⟩ base id (.dp T 2 (sbRow e [])):=by
   refine Tiz (b:=w.heap.size) (p:= .pointer none) (v:= .slice none 0 0) v1 S.bw ?_ (.inl rfl) v2 ⟨by omega,by simp,⟨[],⟨rfl,.inl ⟨v2,rfl⟩⟩,.nil,by simp⟩,fun b hb=>by dsimp only at hb; rw[v2]at hb; simp[blk]at hb⟩ (Tai _ _ _)
   rw[hzc]; simp only[World.alloc]; exact Array.getElem?_push_size
  obtain⟨S2,T2⟩:=S.newG (id:=id) (Tay hid) hidl (w':=w.alloc (.cells z.cells T)) (lm':=upd g.lm w.heap.size 0) (v':=v') (o:= .dp T 2 (sbRow e [])) (Ta2 w _) hl
   (fun x hx=>by
    have h1:x≠nid id 1:=fun h=>hx (by rw[h]; unfold nid; omega)
    have h2:x≠id:=fun h=>hx (by rw[h]; omega)
    simp only[v']; rw[Tbc _ h1,Tbc _ h2])
   (fun x b hi hb=>by
    rcases Tcm.1 hi with rfl | rfl
    · rw[v1]at hb; simp[blk]at hb; omega
    · rw[v2]at hb; simp[blk]at hb)
   ⟨fun _=>id,fun x b hi hb=>by
    rcases Tcm.1 hi with rfl | rfl
    · rfl
    · rw[v2]at hb; simp[blk]at hb⟩ ho2
  refine EffOK.mk' (u:= .pointer (some ⟨w.heap.size,0,none⟩)) rfl ?_ S2 ?_
  · simp[execOp,ho,Instr.alloc,Tdj hz,newVar,Go.newRow]
  · show SRep _ _ (get (AM.put s.h id (.dp T 2 (sbRow e [])))) _ _
    simp only[SRep,Tac]
    exact⟨w.heap.size,by rw[v1]; rfl,by simp⟩
theorem Sim.sbw (S:Sim base w0 lm0 N g a w s){d T e:Nat}{l:List (List PV)}(hd:get s.h d=some (.dp T 2 (sbRow e l))){b:Nat}{p v:Value}(hv:g.v d= .slice (some ⟨b,0,none⟩) 1 1)(hbb:base<=b)(hg:w.heap[b]?=some (.cells #[p,v] T (0,0)))
 (hn:g.v (nid d 1)=v) (hR:RowR w g base (nid d 1) e 1 l) (hlm:g.lm b=0) {w':World} {v':Value} {bs:List UInt8} {xs:List Value} (hrep:RepL w g.lm l.flatten xs) (hone:∀ u∈xs,u.oneCell'=true)
 (q1:w'.heap[b]?=some (.cells #[.pointer (some ⟨b,0,none⟩),v'] T (0,0))) (q2:w'.ownsRow base e 1 v' (l.length+bs.length) (xs++bs.map fun c=>Value.int .u8 c.toNat)) (q3:blk v'=blk v∨∃ c,blk v'=some c/\w.heap.size<=c) (q4:Below base w w') (q5:∀ k,k<w.heap.size->k≠b->blk v≠some k->w'.heap[k]?=w.heap[k]?) :
 ∃ g',Sim base w0 lm0 N g' a w' ⟨s.t,AM.put s.h d (.dp T 2 (sbRow e (l++bRows bs)))⟩:=by
 obtain⟨r1,r2,_,r6⟩:=hR
 rw[hn]at r6
 have hdl:=S.lt _ _ hd
 have hnn:d≠nid d 1:=fun h=>by have:=Tc4 d 1; omega
 have hblt:b<w.heap.size:= (Array.getElem?_eq_some_iff.1 hg).1
 have bd:blk (g.v d)=some b:=by rw[hv]; rfl
 obtain⟨own,hap⟩:=S.ap
 let lm':Nat->Nat:=fun b=>if w.heap.size<=b then 0 else g.lm b
 have hlm':∀ b,b<w.heap.size->lm' b=g.lm b:=fun b h=>if_neg (by omega)
 let gv:Nat->Value:=upd g.v (nid d 1) v'
 have g1:gv d= .slice (some ⟨b,0,none⟩) 1 1:=by simp only[gv]; rw[Tbc _ hnn]; exact hv
 have g2:gv (nid d 1)=v':=Tai _ _ _
 have hbl:∀ k,k<w.heap.size->k≠b->blk v≠some k->w'.heap[k]?=w.heap[k]?/\lm' k=g.lm k:=fun k h1 h2 h3=> ⟨q5 k h1 h2 h3,hlm' k h1⟩
 have hext:Ext w g.lm w' lm':=by
  exact Ext.blocks fun b2 hlt ho2=>hbl b2 hlt (fun e=>by rw[e,hlm]at ho2; omega) (fun e=>by rw[r6 b2 e]at ho2; omega)
 have hnew:ORep w' ⟨lm',gv⟩ base d (.dp T 2 (sbRow e (l++bRows bs))):=by
  have hlen: (l++bRows bs).length=l.length+bs.length:=by simp[bRows]
  refine Tiz g1 hbb q1 (.inr rfl) g2 ⟨by omega,?_,⟨_,by dsimp only; rw[g2,hlen]; exact q2,?_,?_⟩,?_⟩ (by show lm' b=0; rw[hlm' b hblt]; exact hlm)
  · intro c hc
    rcases List.mem_append.1 hc with h | h
    · exact r2 c h
    · obtain⟨_,_,rfl⟩:=List.mem_map.1 h; rfl
  · rw[List.flatten_append]
    exact(hrep.ext hext).append (Tlh _)
  · intro u hu
    rcases List.mem_append.1 hu with h | h
    · exact hone u h
    · obtain⟨_,_,rfl⟩:=List.mem_map.1 h; rfl
  · intro b2 hb2
    dsimp only at hb2 ⊢
    rw[g2]at hb2
    rcases q3 with h | ⟨c,h,hc⟩
    · rw[h]at hb2
      have:=r6 b2 hb2
      show(if _ then _ else _)=0
      split
      · rfl
      · exact this
    · rw[h]at hb2
      obtain rfl:=oIj hb2
      exact if_pos hc
 have hnx:∀ {d1 o1 x},get s.h d1=some o1->d≠d1->Ids d1 o1 x->x≠nid d 1:=fun h1 hne hi e=>by
  have:=hi.mod (S.lt _ _ h1)
  rw[e]at this
  exact hne (by rw[← this]; unfold nid; omega)
 obtain⟨S2,_⟩:=S.dput hd rfl (w':=w') (lm':=lm') (v':=gv) (o':= .dp T 2 (sbRow e (l++bRows bs))) ⟨rfl,rfl⟩ (g1.trans hv.symm) (fun x hx=>Tbc _ (fun e=>hx (by rw[e]; unfold nid; omega)) _) hext q4
  (fun b2 hb2 hlt=>hbl b2 hlt (fun e=>hb2 d (.self _ _) (by rw[e]; exact bd)) (fun e=>hb2 (nid d 1) (Tcm.2 (.inr rfl)) (by rw[hn]; exact e))) hnew
  ⟨fun b2=>if w.heap.size<=b2 then nid d 1 else own b2,fun d1 o1 x b2 h1 l1 hi hb1=>by
   dsimp only
   by_cases e1:d=d1
   · subst e1
     rw[Tac]at h1
     obtain rfl:=oIj h1
     rcases Tcm.1 hi with rfl | rfl
     · rw[g1]at hb1
       simp[blk]at hb1
       subst hb1
       rw[if_neg (by omega)]
       exact hap _ _ _ _ hd rfl (.self _ _) bd
     · rw[g2]at hb1
       rcases q3 with h | ⟨c,h,hc⟩
       · rw[h]at hb1
         have hb1':blk (g.v (nid d 1))=some b2:=by rw[hn]; exact hb1
         have:= ((S.ob _ _ hd).blockI rfl (Tcm.2 (.inr rfl)) hb1').2
         rw[if_neg (by omega)]
         exact hap _ _ _ _ hd rfl (Tcm.2 (.inr rfl)) hb1'
       · rw[h]at hb1
         obtain rfl:=oIj hb1
         exact if_pos hc
   · rw[Tae _ e1]at h1
     have hx:=hnx h1 e1 hi
     simp only[gv]at hb1
     rw[Tbc _ hx]at hb1
     have:= ((S.ob _ _ h1).blockI l1 hi hb1).2
     rw[if_neg (by omega)]
     exact hap _ _ _ _ h1 l1 hi hb1⟩ (fun b2 hK hF x hi hb1=>by
   rcases Tcm.1 hi with rfl | rfl
   · rw[g1]at hb1
     exact hF x _ x hd rfl (.self _ _) (by rw[hv]; exact hb1)
   · rw[g2]at hb1
     rcases q3 with h | ⟨c,h,hc⟩
     · rw[h]at hb1
       exact hF d _ (nid d 1) hd rfl (Tcm.2 (.inr rfl)) (by rw[hn]; exact hb1)
     · rw[h]at hb1
       obtain rfl:=oIj hb1
       have h1:=hK.2
       have h2:=S.fr.sz
       omega)
 exact⟨_,S2⟩
theorem Sim.sbs (S:Sim base w0 lm0 N g a w s){d T e:Nat}{l:List (List PV)}(hd:get s.h d=some (.dp T 2 (sbRow e l))){v:Value}(hn:g.v (nid d 1)=v)(hR:RowR w g base (nid d 1) e 1 l){w':World}
 (q4:Below base w w') (q5:∀ k,k<w.heap.size->blk v≠some k->w'.heap[k]?=w.heap[k]?):Sim base w0 lm0 N g a w' ⟨s.t,AM.put s.h d .dead⟩:=by
 obtain⟨_,_,_,r6⟩:=hR
 rw[hn]at r6
 have hext:Ext w g.lm w' g.lm:=by
  exact Ext.blocks fun b2 hlt ho2=> ⟨q5 b2 hlt (fun e=>by rw[r6 b2 e]at ho2; omega),rfl⟩
 have T:Tr w g (get s.h) w' g (get (AM.put s.h d .dead)):= ⟨hext,fun d1 o1 h1=>by
  by_cases e:d=d1
  · exact .inl ⟨by subst e; rw[hd]at h1; obtain rfl:=oIj h1; rfl,by rw[← e,Tac]⟩
  · exact .inr ⟨rfl,o1,by rw[Tae _ e]; exact h1,Shp.refl _⟩⟩
 refine S.turn T q4 (fun _ _=>rfl) (fun d1 o1 h1=> ?_) (fun d1 o1 h1=> ?_) ?_ (fun d1 e1 k1 l1 h1=> ?_) (fun b _ hbz hF=> ⟨⟨q5 b hbz (fun e=>hF d _ (nid d 1) hd rfl (Tcm.2 (.inr rfl)) (by rw[hn]; exact e)),rfl⟩,fun d1 o1 x h1 l1 hi=> ?_⟩)
 · by_cases e:d=d1
   · subst e
     rw[Tac]at h1
     obtain rfl:=oIj h1
     trivial
   · rw[Tae _ e]at h1
     refine(S.ob _ _ h1).keep (fun _ _=>rfl) hext fun hl x hi b hb=> ⟨q5 b ((S.ob _ _ h1).blockI hl hi hb).2 fun e2=> ?_,rfl⟩
     exact S.far h1 hd hl rfl hi (Tcm.2 (.inr rfl)) (S.ne h1 hd (Ne.symm e) hi (Tcm.2 (.inr rfl))) hb (by rw[hn]; exact e2)
 · by_cases e:d=d1
   · subst e; exact S.lt _ _ hd
   · rw[Tae _ e]at h1; exact S.lt _ _ h1
 · obtain⟨own,hap⟩:=S.ap
   refine⟨own,fun d1 o1 x b h1 l1 hi hb=> ?_⟩
   by_cases e:d=d1
   · subst e
     rw[Tac]at h1
     obtain rfl:=oIj h1
     simp[Ob.live]at l1
   · rw[Tae _ e]at h1
     exact hap d1 o1 x b h1 l1 hi hb
 · by_cases e:d=d1
   · subst e
     rw[Tac]at h1
     simp at h1
   · rw[Tae _ e]at h1
     refine .inl ⟨h1,rfl,fun b hb=>q5 b ((S.ob _ _ h1).block rfl hb).2 fun e2=> ?_⟩
     exact S.far h1 hd rfl rfl (.self _ _) (Tcm.2 (.inr rfl)) (S.ne h1 hd (Ne.symm e) (.self _ _) (Tcm.2 (.inr rfl))) hb (by rw[hn]; exact e2)
 · by_cases e:d=d1
   · subst e
     rw[Tac]at h1
     obtain rfl:=oIj h1
     simp[Ob.live]at l1
   · rw[Tae _ e]at h1
     exact hF d1 o1 x h1 l1 hi
end
end Go.Proofs.YtjpibniecllafaaGreat.AM
end
section
namespace Go.Proofs.YtjpibniecllafaaGreat.AM
open Go Go.RowKit
theorem Toh {d e k x:Nat}{l:List (List PV)}:Ids d (.dp e k l) x↔x=d∨∃ p e' k' l',l.flatten[p]?=some (.ow e' k' l')/\0<k'/\x=nid d p:=by
 constructor
 · exact Ids.dpE
 · rintro(h | ⟨p,e',k',l',hp,hk,rfl⟩)
   · exact .inl h
   · exact .dp hp hk
section
variable {P:Program}{base:Nat}{w0:World}{lm0:L0}{N:Nat}{g:Gs}{a:Act}{w:World}{s:St}{o:Oper}
theorem Sim.over (S:Sim base w0 lm0 N g a w s){d1 d2 e k:Nat}{l1 l2:List (List PV)}(hd1:get s.h d1=some (.row e k false l1))(hd2:get s.h d2=some (.dp e k l2))(hll:l1.length=l2.length)(hok:okSet l2=true)
 {w':World} {xs:List Value} (h4:RepL w g.lm l2.flatten xs) (h5:∀ u∈xs,u.oneCell'=true) (h7:∀ p e' k' l',l2.flatten[p]?=some (.ow e' k' l')->0<k'->xs[p]?=some (g.v (nid d2 p))/\RowR w g base (nid d2 p) e' k' l')
 (hown:w'.ownsRow base e k (g.v d1) l1.length xs) (hb:Below base w w') (hbl:∀ b,blk (g.v d1)≠some b->w'.heap[b]?=w.heap[b]?) :
 ∃ g',Sim base w0 lm0 N g' a w' ⟨s.t,AM.put (AM.put s.h d2 .dead) d1 (.dp e k l2)⟩:=by
 have hne:d1≠d2:=fun h=>by rw[h,hd2]at hd1; simp at hd1
 have l1t:=S.lt _ _ hd1
 have l2t:=S.lt _ _ hd2
 obtain⟨r1,r2,_,r6⟩:=S.ob _ _ hd1
 obtain⟨_,k2,_,_,_⟩:=S.ob _ _ hd2
 obtain⟨own,hap⟩:=S.ap
 let v':Nat->Value:=fun x=>if 1000000<=x/\x % 1000000=d1 then g.v (x-d1+d2)else g.v x
 have v1:v' d1=g.v d1:=if_neg (by omega)
 have v2:∀ p,v' (nid d1 p)=g.v (nid d2 p):=fun p=>by
  have h1:=Tc4 d1 p
  have h2:nid d1 p % 1000000=d1:=by unfold nid; omega
  show(if _ then _ else _)=_
  rw[if_pos ⟨h1,h2⟩]
  congr 1
  unfold nid; omega
 have hlm1:∀ b,blk (g.v d1)=some b->g.lm b=0:=fun b hb=>by simpa using r6 b hb
 have hext:Ext w g.lm w' g.lm:=by
  exact Ext.blocks fun b2 hlt ho2=> ⟨hbl b2 (fun e=>by rw[hlm1 b2 e]at ho2; omega),rfl⟩
 have hnb:∀ p e' k' l',l2.flatten[p]?=some (.ow e' k' l')->0<k'->∀ b,blk (g.v (nid d2 p))=some b->blk (g.v d1)≠some b:=fun p e' k' l' hp hk b hb hb1=>by
  have z1:=hap d2 _ _ b hd2 rfl (Toh.2 (.inr ⟨p,e',k',l',hp,hk,rfl⟩)) hb
  have z2:=hap d1 _ _ b hd1 rfl (.self _ _) hb1
  have:=Tc4 d2 p
  omega
 obtain⟨S1,T1⟩:=S.kill hd2
 have hd1':get (AM.put s.h d2 .dead) d1=some (.row e k false l1):=by rw[Tae _ (Ne.symm hne)]; exact hd1
 obtain⟨S2,_⟩:=S1.dput hd1' rfl (w':=w') (lm':=g.lm) (v':=v') (o':= .dp e k l2) ⟨rfl,hll⟩ v1 (fun x hx=>if_neg fun h=>hx h.2) hext hb
  (fun b hb _=> ⟨hbl b (hb d1 (.self _ _)),rfl⟩)
  ⟨r1,k2,⟨xs,by dsimp only; rw[v1,← hll]; exact hown,h4.ext hext,h5,fun p e' k' l' hp hk=>by
   obtain⟨q1,m1,m2,⟨ys,m3,m4,m5⟩,m6⟩:=h7 p e' k' l' hp hk
   refine⟨by dsimp only; rw[v2]; exact q1,m1,m2,⟨ys,by dsimp only; rw[v2]; exact Tav m3 fun b hb=>hbl b (hnb p e' k' l' hp hk b hb),m4.ext hext,m5⟩,fun b hb=> ?_⟩
   dsimp only at hb
   rw[v2]at hb
   exact m6 b hb⟩,
   fun b hb=>by dsimp only at hb; rw[v1]at hb; exact hlm1 b hb,
   fun p hp=>by have:=Tis hok hp; simp[PV.noHole]at this⟩
  ⟨fun b=>if 1000000<=own b/\own b % 1000000=d2 then own b-d2+d1 else own b,fun d3 o3 x b h3 hl3 hi hbx=>by
   dsimp only
   by_cases e1:d1=d3
   · subst e1
     rw[Tac]at h3
     obtain rfl:=oIj h3
     rcases Toh.1 hi with rfl | ⟨p,e',k',l',hp,hk,rfl⟩
     · rw[v1]at hbx
       have:=hap x _ x b hd1 rfl (.self _ _) hbx
       rw[this,if_neg (by omega)]
     · rw[v2]at hbx
       have:=hap d2 _ _ b hd2 rfl (Toh.2 (.inr ⟨p,e',k',l',hp,hk,rfl⟩)) hbx
       have h2:nid d2 p % 1000000=d2:=by unfold nid; omega
       rw[this,if_pos ⟨Tc4 _ _,h2⟩]
       unfold nid; omega
   · rw[Tae _ e1]at h3
     by_cases e2:d2=d3
     · subst e2
       rw[Tac]at h3
       obtain rfl:=oIj h3
       simp[Ob.live]at hl3
     · rw[Tae _ e2]at h3
       have hm:=hi.mod (S.lt _ _ h3)
       have hx1:v' x=g.v x:=if_neg fun h=>e1 (by rw[← h.2,hm])
       rw[hx1]at hbx
       have:=hap d3 o3 x b h3 hl3 hi hbx
       rw[this,if_neg fun h=>e2 (by rw[← h.2,hm])]⟩ (fun b hK hF x hi hbx=>by
   rcases Toh.1 hi with rfl | ⟨p,e',k',l',hp,hk,rfl⟩
   · rw[v1]at hbx
     exact hF x _ x hd1' rfl (.self _ _) hbx
   · rw[v2]at hbx
     exact S.fr.kd b hK d2 _ (nid d2 p) hd2 rfl (.dp hp hk) hbx)
 exact⟨_,S2⟩
theorem Tw2 (S:Sim base w0 lm0 N g a w s){t t2 el:TypeId}{k:Nat}(h0:0<k){x y:Operand}{x' y':X}{call:Call}{d:Nat}{r:Eff}(ho:o.op= .call {callee:= .builtin .copy,args:= #[x,y],argTypes:= #[t,t2]})(ht:P.underlying t=some (.slice el))(hk:P.cellsOf el=k)
 (hx:okX x x'=true) (hy:okX y y'=true) (he:eff call s d (.cpyo k x' y')=some r):EffOK P base w0 lm0 N g a w s o r:=by
 simp only[eff]at he
 split at he
 case h_2=>simp at he
 rename_i d1 off1 len1 d2 off2 len2 hvx hvy
 split at he
 case h_2=>simp at he
 rename_i e k1 l1 e2 k2 l2 hd1 hd2
 split at he
 case isFalse=>simp at he
 rename_i hc
 obtain⟨hne,rfl,rfl,rfl,rfl,rfl,rfl,rfl,hll,hok⟩:=hc
 simp only[oIE]at he
 subst he
 have hrx:=Tag S hx hvx
 have hry:=Tag S hy hvy
 simp only[SRep,hd1]at hrx
 simp only[SRep,hd2]at hry
 have hux:a.eval x=g.v d1:=by
  rcases hrx.2 with h | h
  · exact h.2.2
  · exact absurd h.1 (by simp)
 have huy:a.eval y=g.v d2:=by
  rcases hry.2 with h | h
  · exact h.2.2
  · exact absurd h.1 (by simp)
 obtain⟨_,hk1,⟨xs1,h31,h41,h51⟩,_⟩:=S.ob _ _ hd1
 obtain⟨_,hk2,⟨xs2,h32,h42,h52,h72⟩,_⟩:=S.ob _ _ hd2
 have fin:∀ {w':World},(execOp a.eval o).run P w= .ok (.value (.int .i64 l1.length)) w'->w'.ownsRow base e2 k2 (g.v d1) l1.length xs2->Below base w w'-> (∀ b,blk (g.v d1)≠some b->w'.heap[b]?=w.heap[b]?)->EffOK P base w0 lm0 N g a w s o ⟨.p (.sc (.int .i64 (l1.length:Nat))),[(d2,.dead),(d1,.dp e2 k2 l2)]⟩:=by
  intro w' hrun h1 h2 h3
  obtain⟨g',S2⟩:=S.over hd1 hd2 hll hok h42 h52 h72 h1 h2 h3
  exact EffOK.mk' (h':=AM.put (AM.put s.h d2 .dead) d1 (.dp e2 k2 l2)) rfl hrun S2 (Rep.sc _)
 have hz2:Nat.min l2.length l1.length=l1.length:=by rw[← hll]; exact Nat.min_self _
 have slv:∀ {v:Value} {n:Nat} {xs:List Value},w.ownsRow base e2 k2 v n xs->∃ ad cap,v= .slice ad n cap:=by
  intro v n xs h
  rcases h.2 with⟨h,hn⟩ | ⟨b,cap,cur,h,_⟩
  · exact⟨none,0,by rw[h,hn]⟩
  · exact⟨_,cap,h⟩
 by_cases hn1:l1.length=0
 · have hl2:l2.length=0:=by omega
   have hx2:xs2= []:=List.eq_nil_of_length_eq_zero (by rw[h32.1,hl2]; simp)
   have hx1:xs1= []:=List.eq_nil_of_length_eq_zero (by rw[h31.1,hn1]; simp)
   subst hx2
   subst hx1
   refine fin (w':=w) ?_ h31 (Below.refl _ _) (fun _ _=>rfl)
   obtain⟨a1,c1,hv1⟩:=slv h31
   obtain⟨a2,c2,hv2⟩:=slv h32
   rw[hn1]at hv1
   rw[hl2]at hv2
   have hm:Nat.min 0 0=0:=rfl
   have hf:∀ c,(Builtin.firstCells k2 0 (.slice a2 0 c)).run P w= .ok #[] w:=fun c=>by cases a2<;> simp[Builtin.firstCells,loadCells,loadCellsFrom]
   cases a1<;> simp[execOp,ho,resolve,invoke,builtin,hux,huy,hv1,hv2,Builtin.copy_,run_underlying ht,Builtin.lenOf,hm,Tao hk h0,hf,storeCells,goInt,hn1]
 rcases h31.2 with⟨hv1,hz⟩ | ⟨b1,cap1,cur1,hv1,q1,q2,q3,q4,q5,q6⟩
 · exact absurd hz hn1
 rcases h32.2 with⟨hv2,hz⟩ | ⟨b2,cap2,cur2,hv2,_⟩
 · omega
 have hcl:xs2.length=l1.length*k2:=by rw[h32.1,hll]
 have hlcap:l1.length*k2<=cap1*k2:=Nat.mul_le_mul_right _ q3
 have hst:=run_storeCells_at P b1 0 e2 xs2 0 cur1 w q2 (by rw[hcl]; omega) h52
 simp only[Nat.add_zero,Nat.zero_add,hcl,List.take_zero,List.nil_append]at hst
 have hsz: (xs2++cur1.toList.drop (l1.length*k2)).toArray.size=cap1*k2:=by
  simp only[List.size_toArray,List.length_append,List.length_drop,Array.length_toList,hcl]; omega
 refine fin (w':=w.setRow b1 (xs2++cur1.toList.drop (l1.length*k2)).toArray) ?_ ⟨hcl,.inr ⟨b1,cap1,(xs2++cur1.toList.drop (l1.length*k2)).toArray,hv1,q1,setRow_heap w b1 cur1 _ e2 _ q2,q3,q4,hsz,?_⟩⟩ (below_setRow (Below.refl _ _) q1 _) (fun b hb=>setRow_other _ _ _ _ fun e=>hb (by rw[hv1,e]; rfl))
 · have hf:=run_firstCells_some (P:=P) w k2 l1.length ⟨b2,0,none⟩ l2.length cap2 xs2 hcl (fun j v hv=>by
    rw[add_n,Nat.zero_add]
    exact Ta5 h32 (by rw[hv2]; rfl) hv)
   simp[execOp,ho,resolve,invoke,builtin,hux,huy,hv1,hv2,Builtin.copy_,run_underlying ht,Builtin.lenOf,hz2,Tao hk h0,hf,hst,goInt]
 · rw[List.toList_toArray,← hcl,List.take_left]
end
end Go.Proofs.YtjpibniecllafaaGreat.AM
end
section
namespace Go.Proofs.YtjpibniecllafaaGreat.AM
open Go Go.RowKit
section
variable {α:Type}
theorem Toi {k:Nat}:∀ {l:List (List α)},(∀ c∈l,c.length=k)->l.flatten.length=l.length*k
 | [],_=>by simp
 | c::l,h=>by
  have:=Toi (l:=l) (fun c hc=>h c (by simp[hc]))
  simp[List.flatten_cons,this,h c (by simp),Nat.add_mul]; omega
theorem Tha {k:Nat}:∀ {l:List (List α)} (n:Nat),(∀ c∈l,c.length=k)->l.flatten.drop (n*k)= (l.drop n).flatten
 | l,0,_=>by simp
 | [],n+1,_=>by simp
 | c::l,n+1,h=>by
  have hc:c.length=k:=h c (by simp)
  have e: (n+1)*k=c.length+n*k:=by rw[Nat.add_mul,hc]; omega
  rw[e,List.flatten_cons,← List.drop_drop,List.drop_left,List.drop_succ_cons]
  exact Tha n (fun c hc=>h c (by simp[hc]))
theorem fl_at {k i:Nat}{l:List (List α)}{c:List α}(hk:∀ c∈l,c.length=k)(hc:l[i]?=some c): (l.drop i).flatten=c++ (l.drop (i+1)).flatten:=by
 have hil:i<l.length:= (List.getElem?_eq_some_iff.1 hc).1
 rw[List.drop_eq_getElem_cons hil,List.flatten_cons]; congr 1
 simpa[List.getElem?_eq_getElem hil]using hc
theorem Thb {k i j n:Nat}{l:List (List α)}{c:List α}(hk:∀ c∈l,c.length=k)(hc:l[i]?=some c)(hle:j+n<=c.length): (l.flatten.drop (i*k+j)).take n= (c.drop j).take n:=by
 rw[← List.drop_drop,Tha i hk,fl_at hk hc,List.drop_append_of_le_length (by omega),List.take_append_of_le_length (by simp; omega)]
theorem T3b {k i j:Nat}{l:List (List α)}{c:List α}{x:α}(hk:∀ c∈l,c.length=k)(hc:l[i]?=some c)(hx:c[j]?=some x):l.flatten[i*k+j]?=some x:=by
 have hj:j<c.length:= (List.getElem?_eq_some_iff.1 hx).1
 have h:=Thb (j:=j) (n:=1) hk hc (by omega)
 have h2:=congrArg (fun z:List α=>z[0]?) h
 simp only[List.getElem?_take,List.getElem?_drop,Nat.add_zero,Nat.zero_lt_one,if_true]at h2
 rw[h2]; exact hx
theorem fl_in {k i:Nat}{l:List (List α)}(hil:i<l.length):i*k+k<=l.length*k:=by
 have:=Nat.mul_le_mul_right k (show i+1<=l.length from hil)
 rwa[Nat.add_mul,Nat.one_mul]at this
theorem Tzc {k:Nat}:∀ {l:List (List α)} {i:Nat} {c:List α},(∀ c∈l,c.length=k)->i<l.length-> (l.set i c).flatten=l.flatten.take (i*k)++c++l.flatten.drop (i*k+k)
 | [],i,c,_,h=>by simp at h
 | x::l,0,c,hk,h=>by
  have hx:=hk x (by simp)
  simp only[List.set_cons_zero,List.flatten_cons,Nat.zero_mul,List.take_zero,List.nil_append,Nat.zero_add]
  rw[show k=x.length from hx.symm,List.drop_left]
 | x::l,i+1,c,hk,h=>by
  have hx:=hk x (by simp)
  have ih:=Tzc (l:=l) (i:=i) (c:=c) (fun c hc=>hk c (by simp[hc])) (by simpa using h)
  have e: (i+1)*k=x.length+i*k:=by rw[Nat.add_mul,hx]; omega
  rw[List.set_cons_succ,List.flatten_cons,ih,List.flatten_cons,e,List.take_append,List.take_of_length_le (l:=x) (by omega),Nat.add_sub_cancel_left,show x.length+i*k+k=x.length+ (i*k+k)by omega,List.drop_append,List.drop_of_length_le (l:=x) (by omega),Nat.add_sub_cancel_left]
  simp[List.append_assoc]
theorem T3c {k i j n:Nat}{l:List (List α)}{c yc:List α}(hk:∀ c∈l,c.length=k)(hc:l[i]?=some c)(hle:j+n<=c.length)(hy:yc.length=n): (l.set i (c.take j++yc++c.drop (j+n))).flatten=l.flatten.take (i*k+j)++yc++l.flatten.drop (i*k+j+n):=by
 have hil:i<l.length:= (List.getElem?_eq_some_iff.1 hc).1
 have hck:c.length=k:=hk c (List.mem_of_getElem? hc)
 have hdi:=fl_at hk hc
 rw[Tzc hk hil]
 have e3:l.flatten.drop (i*k+k)= (l.drop (i+1)).flatten:=by
  rw[← List.drop_drop,Tha i hk,hdi]
  conv=>lhs; rw[← hck]
  rw[List.drop_left]
 have e1:l.flatten.take (i*k+j)=l.flatten.take (i*k)++c.take j:=by
  rw[List.take_add,Tha i hk,hdi,List.take_append_of_le_length (by omega)]
 have e2:l.flatten.drop (i*k+j+n)=c.drop (j+n)++l.flatten.drop (i*k+k):=by
  rw[show i*k+j+n=i*k+ (j+n)by omega,← List.drop_drop,Tha i hk,hdi,List.drop_append_of_le_length (by omega),e3]
 rw[e1,e2]
 simp[List.append_assoc]
end
section
variable {w:World}{g:Gs}{h:Nat->Option Ob}
theorem QRepL.length:∀ {l vs},QRepL w g h l vs->l.length=vs.length
 | _,_,.nil=>rfl
 | _,_,.cons _ b=>by simp[QRepL.length b]
theorem QRepL.get:∀ {l vs},QRepL w g h l vs->∀(i:Nat) (x:RV),l[i]?=some x->∃ v,vs[i]?=some v/\QRep w g h x v
 | _,_,.nil,i,x,h=>by simp at h
 | _,_,.cons a b,0,x,h=>by simp at h; subst h; exact⟨_,rfl,a⟩
 | _,_,.cons a b,i+1,x,h=>by simpa using QRepL.get b i x (by simpa using h)
theorem QRepL.drop:∀ {l vs},QRepL w g h l vs->∀ n,QRepL w g h (l.drop n) (vs.drop n)
 | _,_,h,0=>h
 | _,_,.nil,n+1=> .nil
 | _,_,.cons a b,n+1=>QRepL.drop b n
theorem QRepL.take:∀ {l vs},QRepL w g h l vs->∀ n,QRepL w g h (l.take n) (vs.take n)
 | _,_,h,0=> .nil
 | _,_,.nil,n+1=> .nil
 | _,_,.cons a b,n+1=> .cons a (QRepL.take b n)
theorem QRepL.append:∀ {l vs},QRepL w g h l vs->∀ {m us},QRepL w g h m us->QRepL w g h (l++m) (vs++us)
 | _,_,.nil,_,_,h=>h
 | _,_,.cons a b,_,_,h=> .cons a (QRepL.append b h)
theorem RepL.qrepl:∀ {l:List PV} {us:List Value},RepL w g.lm l us->QRepL w g h (l.map RV.p) us
 | _,_,.nil=> .nil
 | _,_,.cons a b=> .cons a (RepL.qrepl b)
end
theorem Tfp {k i j:Nat}{l:List (List RV)}{c:RV}(hk:∀ c∈l,c.length=k)(h:cellR l i j=some c):l.flatten[i*k+j]?=some c:=by
 unfold cellR at h
 split at h
 · rename_i r hr; exact T3b hk hr h
 · simp at h
theorem Toj {w:World}{base e e' k n m cap b:Nat}{v:Value}{xs:List Value}{cur:Array Value}{z:Nat×Nat}(h:w.ownsRow base e k v n xs)(hv:v= .slice (some ⟨b,0,none⟩) m cap)(hg:w.heap[b]?=some (.cells cur e' z)):xs=cur.toList.take (n*k):=by
 rcases h.2 with⟨h1,_⟩ | ⟨b',cap',cur',h1,_,h2,_,_,_,h3⟩
 · rw[hv]at h1; simp at h1
 · rw[hv]at h1
   simp only[Value.slice.injEq,oIE,Addr.mk.injEq,and_true]at h1
   obtain⟨rfl,_⟩:=h1
   rw[hg]at h2
   simp only[oIE,Obj.cells.injEq]at h2
   rw[← h3,h2.1]
section
variable {P:Program}{base:Nat}{w0:World}{lm0:L0}{N:Nat}{g:Gs}{a:Act}{w:World}{s:St}{o:Oper}
theorem Sim.gro (S:Sim base w0 lm0 N g a w s){d e k:Nat}{l:List (List RV)}(hd:get s.h d=some (.gr e k l)){i j:Nat}{u:Value}(hr:SRep w g (get s.h) (.mp d i j) u) :
 0<k/\ (∀ c∈l,c.length=k)/\∃ b xs,u= .pointer (some ⟨b,i*k+j,none⟩)/\blk (g.v d)=some b/\w.ownsRow base e k (g.v d) l.length xs/\QRepL w g (get s.h) l.flatten xs/\ (∀ u∈xs,u.oneCell'=true):=by
 obtain⟨h1,h2,⟨xs,h3,h5⟩,h6⟩:=S.ob d _ hd
 simp only[SRep,hd]at hr
 obtain⟨b,hb,rfl⟩:=hr
 exact⟨h1,h2,b,xs,rfl,hb,h3,S.gs d e k l xs hd h3,h5⟩
theorem Tqo {e k n:Nat}{v:Value}{xs:List Value}(h:w.ownsRow base e k v n xs):∃ ad m c,v= .slice ad m c:=by
 rcases h.2 with⟨rfl,_⟩ | ⟨_,_,_,rfl,_⟩<;> exact⟨_,_,_,rfl⟩
theorem Tw3 (S:Sim base w0 lm0 N g a w s){v:SV}{u:Value}(hr:SRep w g (get s.h) v u){d:Nat}(hid:v.id?=some d)(hl:liveR s.h d=true):u.cells= #[u]/\u.oneCell'=true:=by
 have sl:∀ {u:Value},(∃ ad m c,u= .slice ad m c)->u.cells= #[u]/\u.oneCell'=true:=fun⟨_,_,_,h⟩=>by rw[h]; exact⟨rfl,rfl⟩
 have pt:∀ {u:Value},(∃ ad,u= .pointer ad)->u.cells= #[u]/\u.oneCell'=true:=fun⟨_,h⟩=>by rw[h]; exact⟨rfl,rfl⟩
 unfold liveR at hl
 cases v with
 | ms d' off len =>
  simp only[SV.id?,oIE]at hid
  subst hid
  cases hd:get s.h d' with
  | none=>rw[hd]at hl; simp at hl
  | some ob =>
   rw[hd]at hl
   have hob:=S.ob d' ob hd
   cases ob<;> simp only[SRep,hd]at hr<;> first | exact hr.elim | (simp[Ob.live]at hl; done) | skip
   all_goals
    obtain⟨_,hr⟩:=hr
    refine sl ?_
    rcases hr with⟨_,_,rfl⟩ | ⟨_,_,_,rfl,_⟩
    · obtain⟨_,_,⟨xs,h3,_⟩,_⟩:=hob
      exact Tqo h3
    · exact⟨_,_,_,rfl⟩
 | mp d' i j =>
  simp only[SV.id?,oIE]at hid
  subst hid
  cases hd:get s.h d' with
  | none=>rw[hd]at hl; simp at hl
  | some ob =>
   rw[hd]at hl
   have hob:=S.ob d' ob hd
   cases ob<;> simp only[SRep,hd]at hr<;> first | exact hr.elim | (simp[Ob.live]at hl; done) | skip
   all_goals
    refine pt ?_
    first
    | (obtain⟨_,_,rfl⟩:=hr; exact⟨_,rfl⟩)
    | (obtain⟨b,h1,_⟩:=hob; rw[hr,h1]; exact⟨_,rfl⟩)
 | mo d' =>
  simp only[SV.id?,oIE]at hid
  subst hid
  cases hd:get s.h d' with
  | none=>rw[hd]at hl; simp at hl
  | some ob =>
   rw[hd]at hl
   have hob:=S.ob d' ob hd
   cases ob<;> simp only[SRep,hd]at hr<;> first | exact hr.elim | (simp[Ob.live]at hl; done) | skip
   obtain⟨_,⟨b,h1,_⟩,_⟩:=hob
   rw[hr,h1]; exact pt ⟨_,rfl⟩
 | _=>simp[SV.id?]at hid
theorem Tdw (S:Sim base w0 lm0 N g a w s){v:SV}{u:Value}(hr:SRep w g (get s.h) v u){c:List RV}(hc:rcells v=some c)(hl:liveV s.h v=true):QRepL w g (get s.h) c u.cells.toList/\∀ x∈u.cells.toList,x.oneCell'=true:=by
 have one:∀ {r:RV},v=r.sv->∀ {d},v.id?=some d->v.refs= [d]->QRepL w g (get s.h) [r] u.cells.toList/\∀ x∈u.cells.toList,x.oneCell'=true:=by
  intro r hv d hid href
  have hld:liveR s.h d=true:=by
   unfold liveV at hl
   rw[href]at hl
   simpa using hl
  obtain⟨q1,q2⟩:=Tw3 S hr hid hld
  rw[q1]
  exact⟨.cons (QRep.sv.2 (by rw[← hv]; exact hr)) .nil,fun x hx=>by simp at hx; rw[hx]; exact q2⟩
 cases v with
 | p x =>
  simp only[rcells]at hc
  split at hc
  · rename_i c' hx
    obtain rfl:=oIj hc
    obtain⟨q1,q2⟩:=Rep.cells hr hx
    exact⟨q1.qrepl,q2⟩
  · simp at hc
 | ms d off len=>simp only[rcells,oIE]at hc; subst hc; exact one rfl rfl rfl
 | mp d i j=>simp only[rcells,oIE]at hc; subst hc; exact one rfl rfl rfl
 | mo d=>simp only[rcells,oIE]at hc; subst hc; exact one rfl rfl rfl
 | sst l =>
  simp only[rcells,oIE]at hc
  subst hc
  obtain⟨vs,rfl,q1,q2⟩:=hr
  exact⟨by simpa[Value.cells]using q1,by simpa[Value.cells]using q2⟩
 | _=>simp[rcells]at hc
theorem T0r (S:Sim base w0 lm0 N g a w s){t:TypeId}{x:Operand}{y:X}{e:Eff}{call:Call}{d:Nat}(ho:o.op= .load t x)(ha:aggT P t=some false)(hx:okX x y=true)
 (he:eff call s d (.ldr y)=some e):EffOK P base w0 lm0 N g a w s o e:=by
 simp only[eff]at he
 split at he
 case h_2=>simp at he
 rename_i d' i j hv
 have hr:=Tag S hx hv
 split at he
 case h_2=>simp at he
 rename_i e' k l hd
 split at he
 case h_2=>simp at he
 rename_i c hc
 split at he
 case isFalse=>simp at he
 simp only[oIE]at he
 subst he
 obtain⟨h0,hk,b,xs,hu,hb,hown,hq,h1⟩:=S.gro hd hr
 obtain⟨v0,hv0,hrep⟩:=hq.get _ _ (Tfp hk hc)
 refine EffOK.pure S (u:=v0) ?_ (QRep.sv.1 hrep)
 have:=Tc6 ha (Ta5 hown hb hv0)
 simp[execOp,ho,hu,this]
theorem Tw4 (S:Sim base w0 lm0 N g a w s){t:TypeId}{x:Operand}{y:X}{k:Nat}{e:Eff}{call:Call}{d:Nat}(ho:o.op= .load t x)(ha:aggT P t=some true)(hk:P.cellsOf t=k)(h0:0<k)(hx:okX x y=true)
 (he:eff call s d (.ldkr k y)=some e):EffOK P base w0 lm0 N g a w s o e:=by
 simp only[eff]at he
 split at he
 case h_2=>simp at he
 rename_i d' i j hv
 have hr:=Tag S hx hv
 split at he
 case h_2=>simp at he
 rename_i e' k' l hd
 split at he
 case h_2=>simp at he
 rename_i c hc
 split at he
 case isFalse=>simp at he
 rename_i hle
 simp only[oIE]at he
 subst he
 obtain⟨h0',hk',b,xs,hu,hb,hown,hq,h1⟩:=S.gro hd hr
 have hq':= (hq.drop (i*k'+j)).take k
 rw[Thb hk' hc hle]at hq'
 have hl:=hq'.length
 rw[List.length_take,List.length_drop,Nat.min_eq_left (by omega)]at hl
 refine EffOK.pure S (u:= .agg ((xs.drop (i*k'+j)).take k).toArray) ?_ ⟨_,rfl,hq',fun u hu=>h1 u (List.mem_of_mem_drop (List.mem_of_mem_take hu))⟩
 have:=Te3 (P:=P) (w:=w) ha hk h0 (b:=b) (o:=i*k'+j) (vs:= (xs.drop (i*k'+j)).take k) hl.symm (fun q u hu=>Ta5 hown hb (by
  rw[List.getElem?_take]at hu
  split at hu
  · rw[List.getElem?_drop]at hu; exact hu
  · simp at hu))
 simp[execOp,ho,hu,this]
theorem QRepL.sv1 {w:World}{g:Gs}{h:Nat->Option Ob}:∀ {l:List RV} {us:List Value},QRepL w g h l us->SRepL w g h (l.map RV.sv) us
 | _,_,.nil=> .nil
 | _,_,.cons a b=> .cons (QRep.sv.1 a) (QRepL.sv1 b)
theorem Thc {r:RV}(h:r.isNil=true):r= .p (.sc (.slice none 0 0)):=by
 unfold RV.isNil at h
 split at h
 · rfl
 · simp at h
theorem Ti0 {lm:Nat->Nat}:∀ {ks:List Nat} {ys:List PV} {us:List Value},RepL w lm ys us->RepL w lm (fixN ks ys) us
 | [],_,_,h=>h
 | _::_,[],_,h=>h
 | k::ks,y::ys,_,.cons a b=>by
  simp only[fixN]
  refine .cons ?_ (Ti0 b)
  split
  · rename_i h
    have e:y= .sc (.slice none 0 0):=by simpa using Thc h.2
    subst e
    cases a
    exact .sl0
  · exact a
theorem Tw5 (S:Sim base w0 lm0 N g a w s){t:TypeId}{x:Operand}{y:X}{el k:Nat}{e:Eff}{call:Call}{d:Nat}(h0k:0<k)(ho:o.op= .load t x)(ha:aggT P t=some false)(hx:okX x y=true)
 (he:eff call s d (.ldrn el k y)=some e):EffOK P base w0 lm0 N g a w s o e:=by
 simp only[eff]at he
 split at he
 case h_2=>simp at he
 rename_i d' i j hv
 have hr:=Tag S hx hv
 split at he
 case h_2=>simp at he
 rename_i e' k' l hd
 split at he
 case h_2=>simp at he
 rename_i c hc
 obtain⟨h0,hk,b,xs,hu,hb,hown,hq,h1⟩:=S.gro hd hr
 obtain⟨v0,hv0,hrep⟩:=hq.get _ _ (Tfp hk hc)
 have hrun: (execOp a.eval o).run P w= .ok (.value v0) w:=by
  have:=Tc6 ha (Ta5 hown hb hv0)
  simp[execOp,ho,hu,this]
 split at he
 · rename_i hn
   split at he
   case h_2=>simp at he
   rename_i id hid
   simp only[oIE]at he
   subst he
   obtain rfl:=Thc hn
   obtain rfl:=Ta6 hrep
   obtain⟨S',T'⟩:=S.new (lm':=g.lm) (v0:= .slice none 0 0) (o:= .row el k false []) (Tay hid) (Tbb hid) (Below.refl _ w) (fun _ _=>rfl) rfl (fun b hb=>by simp[blk]at hb)
    ⟨h0k,by simp,⟨[],by simp only[Tai]; exact World.ownsRow_nil w base el k,.nil,by simp⟩,fun b hb=>by simp only[Tai]at hb; simp[blk]at hb⟩
   refine⟨.slice none 0 0,w,_,.inl hrun,S',?_⟩
   have:=Tbh (w':=w) (g':= ⟨g.lm,upd g.v id (.slice none 0 0)⟩) (h':=AM.put s.h id (.row el k false [])) (Tac _ _ _) (n:=0) rfl
   simp only[Tai]at this
   exact this
 · split at he
   case isFalse=>simp at he
   simp only[oIE]at he
   subst he
   exact EffOK.pure S hrun (QRep.sv.1 hrep)
theorem Tw6 (S:Sim base w0 lm0 N g a w s){t:TypeId}{x:Operand}{y:X}{ks:List Nat}{e:Eff}{call:Call}{d:Nat}(ho:o.op= .load t x)(ha:aggT P t=some true)(hk:P.cellsOf t=ks.length)(h0:0<ks.length)(hx:okX x y=true)
 (he:eff call s d (.ldkf ks y)=some e):EffOK P base w0 lm0 N g a w s o e:=by
 simp only[eff]at he
 split at he
 case h_2=>simp at he
 rename_i d' i j hv
 have hr:=Tag S hx hv
 split at he
 case h_2=>simp at he
 rename_i e' k' l hd
 split at he
 case h_2=>simp at he
 rename_i c hc
 split at he
 case isFalse=>simp at he
 rename_i hle
 split at he
 case h_2=>simp at he
 rename_i ys fr hf
 simp only[oIE]at he
 subst he
 obtain⟨h0',hk',b,xs,hu,hb,hown,hq,h1⟩:=S.gro hd hr
 have hq':= (hq.drop (i*k'+j)).take ks.length
 rw[Thb hk' hc hle]at hq'
 have hl:=hq'.length
 rw[List.length_take,List.length_drop,Nat.min_eq_left (by omega)]at hl
 refine EffOK.frzs S hq'.sv1 hf (u:= .agg ((xs.drop (i*k'+j)).take ks.length).toArray) ?_ (fun lm' hrl=> .st (Ti0 hrl) fun u hu=>h1 u (List.mem_of_mem_drop (List.mem_of_mem_take hu)))
 have:=Te3 (P:=P) (w:=w) ha hk h0 (b:=b) (o:=i*k'+j) (vs:= (xs.drop (i*k'+j)).take ks.length) hl.symm (fun q u hu=>Ta5 hown hb (by
  rw[List.getElem?_take]at hu
  split at hu
  · rw[List.getElem?_drop]at hu; exact hu
  · simp at hu))
 simp[execOp,ho,hu,this]
theorem T0s (S:Sim base w0 lm0 N g a w s){x:Operand}{y:X}{call:Call}{d:Nat}{e:Eff}(ho:o.op= .nilCheck x)(hx:okX x y=true)(he:eff call s d (.nkr y)=some e):EffOK P base w0 lm0 N g a w s o e:=by
 simp only[eff]at he
 split at he
 case h_2=>simp at he
 rename_i d' i j hv
 have hr:=Tag S hx hv
 split at he
 case h_2=>simp at he
 rename_i e' k l hd
 simp only[oIE]at he
 subst he
 obtain⟨_,_,b,xs,hu,_⟩:=S.gro hd hr
 exact EffOK.pure S (u:=a.eval x) (by simp[execOp,ho,hu]) hr
theorem T0t (S:Sim base w0 lm0 N g a w s){ne:Bool}{op:BinOp}(hop:op=if ne then .neq else .eql){t ty e:TypeId}{x1:Operand}{y1:X}{call:Call}{d:Nat}{r:Eff}(ho:o.op= .binOp op t x1 (.const (.pointer none)) ty)(ht:P.underlying t=some (.pointer e))(hx1:okX x1 y1=true)(hr:eff call s d (.nlq ne y1)=some r) :
 EffOK P base w0 lm0 N g a w s o r:=by
 simp only[eff]at hr
 split at hr
 case h_2=>simp at hr
 rename_i d' i j hv
 have hrr:=Tag S hx1 hv
 split at hr
 case h_2=>simp at hr
 rename_i e' k l hd
 simp only[oIE]at hr
 subst hr
 obtain⟨_,_,b,xs,hu,_⟩:=S.gro hd hrr
 have hq:=Tiv (P:=P) (w:=w) ht (some ⟨b,i*k+j,none⟩)
 have e2:a.eval (.const (.pointer none))= .pointer none:=rfl
 refine EffOK.pure S (u:= .bool ne) ?_ (.sc _)
 cases ne<;> subst hop<;> simp[execOp,ho,hu,e2,eqGuard,binOp,hq]
theorem T0u (S:Sim base w0 lm0 N g a w s){t:TypeId}{fs:Array Field}{i:Nat}{f:Field}{x:Operand}{y:X}{off:Nat}{call:Call}{d:Nat}{e:Eff}(ho:o.op= .fieldAddr t x i)(ht:P.underlying t=some (.struct fs))(hf:fs[i]?=some f)(hoff:f.offset=off)(h0:0<P.cellsOf f.type)(hx:okX x y=true)
 (he:eff call s d (.far y off)=some e):EffOK P base w0 lm0 N g a w s o e:=by
 have hrun:∀ b of,a.eval x= .pointer (some ⟨b,of,none⟩)-> (execOp a.eval o).run P w= .ok (.value (.pointer (some ⟨b,of+off,none⟩))) w:=by
  intro b of hu
  simp[execOp,ho,hu,Instr.fieldAt,run_underlying ht,hf,Instr.sureAddr,Tc1 h0,hoff]
 simp only[eff]at he
 split at he
 case h_2=>simp at he
 rename_i d' i' j hv
 have hr:=Tag S hx hv
 split at he
 case h_2=>simp at he
 rename_i e' k l hd
 simp only[oIE]at he
 subst he
 obtain⟨_,_,b,xs,hu,hb,_⟩:=S.gro hd hr
 refine EffOK.pure S (hrun b _ hu) ?_
 simp only[SRep,hd]
 exact⟨b,hb,by rw[Nat.add_assoc]⟩
theorem T0v (S:Sim base w0 lm0 N g a w s){t el:TypeId}{x i:Operand}{y j:X}{m:Nat}{call:Call}{d:Nat}{e:Eff}(ho:o.op= .indexAddr t x i)(ht:P.underlying t=some (.array m el))(hk:P.cellsOf el=1)(hx:okX x y=true)(hi:okX i j=true)
 (he:eff call s d (.aar m y j)=some e):EffOK P base w0 lm0 N g a w s o e:=by
 simp only[eff]at he
 split at he
 case h_2=>simp at he
 rename_i d' i' j' u hv hw
 have hr:=Tag S hx hv
 split at he
 case h_2=>simp at he
 rename_i n hn
 split at he
 case h_2=>simp at he
 rename_i e' k l hd
 split at he
 case isFalse=>simp at he
 rename_i hlt
 simp only[oIE]at he
 subst he
 obtain⟨ki,hi'⟩:=Tbg S hi hw hn
 obtain⟨_,_,b,xs,hu,hb,_⟩:=S.gro hd hr
 have h1: (0:Int)<= (n:Int)/\ (n:Int)< (m:Int):=by omega
 refine EffOK.pure S (u:= .pointer (some ⟨b,i'*k+j'+n,none⟩)) ?_ ?_
 · simp[execOp,ho,hu,hi',Instr.indexAt,run_underlying ht,asIntOf,h1,Instr.sureAddr,Tao hk (by omega),add_n,hlt]
 · simp only[SRep,hd]
   exact⟨b,hb,by rw[Nat.add_assoc]⟩
theorem T0w (S:Sim base w0 lm0 N g a w s){t el:TypeId}{m:Nat}{x i:Operand}{y j:X}{call:Call}{d:Nat}{e:Eff}(ho:o.op= .index t x i)(ht:P.underlying t=some (.array m el))(ha:aggT P el=some false)(hk:P.cellsOf el=1)(hx:okX x y=true)(hi:okX i j=true)
 (he:eff call s d (.ix1 m y j)=some e):EffOK P base w0 lm0 N g a w s o e:=by
 simp only[eff]at he
 split at he
 case h_2=>simp at he
 rename_i l v hv hw
 split at he
 case h_2=>simp at he
 rename_i n hn
 split at he
 case isFalse=>simp at he
 rename_i hlt
 split at he
 case h_2=>simp at he
 rename_i c hc
 simp only[oIE]at he
 subst he
 obtain⟨vs,hu,hl,h1⟩:=Tit (Tag S hx hv)
 obtain⟨ki,hi'⟩:=Tbg S hi hw hn
 obtain⟨u,hu2,hrep⟩:=hl.get _ _ hc
 refine EffOK.pure S (u:=u) ?_ hrep
 have hlt2: (0:Int)<= (n:Int)/\ (n:Int)< (m:Int):=by omega
 simp[execOp,ho,hu,hi',Instr.index,asIntOf,run_underlying ht,hlt2,hlt,Tao hk (by omega),Te4 ha hu2]
theorem T0x (S:Sim base w0 lm0 N g a w s){x:Operand}{y:X}{i:Nat}{call:Call}{d:Nat}{e:Eff}(ho:o.op= .extract x i)(hx:okX x y=true)(he:eff call s d (.exr y i)=some e):EffOK P base w0 lm0 N g a w s o e:=by
 simp only[eff]at he
 split at he
 · rename_i l hv
   obtain⟨vs,hu,hl⟩:=Tag S hx hv
   split at he
   case h_2=>simp at he
   rename_i c hc
   split at he
   case isFalse=>simp at he
   simp only[oIE]at he
   subst he
   obtain⟨v,hv,hrep⟩:=hl.get _ _ hc
   exact EffOK.pure S (u:=v) (by simp[execOp,ho,hu,Instr.extract,hv]) (QRep.sv.1 hrep)
 · rename_i l hv
   exact Tsp S (call:=call) (d:=d) ho hx (by simp only[eff,hv]; exact he)
 · simp at he
theorem Tlj {g:Gs}{h:Nat->Option Ob}:∀ {vs:List SV} {l:List RV} {us:List Value},rvs vs=some l->SRepL w g h vs us->QRepL w g h l us
 | [],l,us,hv,hr=>by
  simp only[rvs,oIE]at hv
  subst hv
  cases hr
  exact .nil
 | v::vs,l,us,hv,hr=>by
  simp only[rvs]at hv
  split at hv
  case h_2=>simp at hv
  rename_i x hx
  split at hv
  case h_2=>simp at hv
  rename_i xs hxs
  obtain rfl:=oIj hv
  cases hr with
  | cons h1 h2=>exact .cons (QRep.sv.2 (by rw[← SV.rv_sv hx]; exact h1)) (Tlj hxs h2)
theorem T0y (S:Sim base w0 lm0 N g a w s){f:FuncId}{xs:List Operand}{ys:List X}{call:Call}{d:Nat}{e:Eff}(ho:o.op= .makeFunc (.func f) #[] xs.toArray)(hx:okXs xs ys=true)(he:eff call s d (.mkr f ys)=some e):EffOK P base w0 lm0 N g a w s o e:=by
 simp only[eff]at he
 split at he
 case h_2=>simp at he
 rename_i vs hv
 split at he
 case h_2=>simp at he
 rename_i l hl
 simp only[oIE]at he
 subst he
 exact EffOK.pure S (u:= .func (.func f) #[] (xs.map a.eval).toArray) (by simp[execOp,ho,Instr.makeFunc]) ⟨_,rfl,Tlj hl (Ta1 S hx hv)⟩
theorem Sim.newGr (S:Sim base w0 lm0 N g a w s){id:Nat}(hid:get s.h id=none)(hid2:id<1000000){e k:Nat}(h0:0<k){l:List (List RV)}(hk:∀ c∈l,c.length=k){cs:Array Value}(hq:QRepL w g (get s.h) l.flatten cs.toList)(h1:∀ u∈cs.toList,u.oneCell'=true)(hm:l.length<=maxLen) :
 let w':=w.alloc (.cells cs e)
 let g':Gs:= ⟨upd g.lm w.heap.size 0,upd g.v id (.slice (some ⟨w.heap.size,0,none⟩) l.length l.length)⟩
 Sim base w0 lm0 N g' a w' ⟨s.t,AM.put s.h id (.gr e k l)⟩/\Tr w g (get s.h) w' g' (get (AM.put s.h id (.gr e k l))):=by
 intro w' g'
 have hlm:∀ b,b<w.heap.size->upd g.lm w.heap.size 0 b=g.lm b:=fun b h=>Tbc _ (by omega) _
 have hsz:cs.size=l.length*k:=by
  have:=hq.length
  rw[Toi hk]at this
  simpa using this.symm
 have hwn:w'.heap[w.heap.size]?=some (.cells cs e (0,0)):=by simp only[w',World.alloc]; exact Array.getElem?_push_size
 have T:Tr w g (get s.h) w' g' (get (AM.put s.h id (.gr e k l))):= ⟨Ext.of_below (Ta2 w _) hlm,fun d o1 h1=>by
  have hne:id≠d:=fun e=>by rw[← e,hid]at h1; simp at h1
  exact .inr ⟨Tbc _ (Ne.symm hne) _,o1,by rw[Tae _ hne]; exact h1,Shp.refl _⟩⟩
 refine S.new hid hid2 (Ta2 w _) hlm rfl (fun b hb=> ?_) ⟨h0,hk,⟨cs.toList,?_,h1⟩,fun b hb=> ?_⟩ (fun e1 k1 l1 he xs hw=> ?_)
 · simp[blk]at hb; omega
 · simp only[Tai]
   exact World.ownsRow_lit w cs l.length S.bw hm hsz
 · simp only[Tai]at hb
   simp[blk]at hb
   subst hb
   exact Tai _ _ _
 · simp only[Ob.gr.injEq]at he
   obtain⟨rfl,rfl,rfl⟩:=he
   have:xs=cs.toList:=by
    rw[Toj hw (Tai _ _ _) hwn,List.take_of_length_le (by simp; omega)]
   rw[this]
   exact hq.tr T
theorem Thd {w':World}{g':Gs}{h':List (Nat×Ob)}{id e k:Nat}{l:List (List RV)}{b n m:Nat}(hd:get h' id=some (.gr e k l))(hv:g'.v id= .slice (some ⟨b,0,none⟩) n m):SRep w' g' (get h') (.mp id 0 0) (.pointer (some ⟨b,0,none⟩)):=by
 simp only[SRep,hd,hv]
 exact⟨b,rfl,by simp⟩
theorem Tw7 (S:Sim base w0 lm0 N g a w s){e k:Nat}(h0:0<k){x:Operand}{y:X}{call:Call}{d:Nat}{r:Eff}(ho:o.op= .box e x)(hx:okX x y=true)(he:eff call s d (.boxr e k y)=some r):EffOK P base w0 lm0 N g a w s o r:=by
 simp only[eff]at he
 split at he
 case h_2=>simp at he
 rename_i v hv
 split at he
 case h_2=>simp at he
 rename_i c hc
 split at he
 case isFalse=>simp at he
 rename_i hcond
 split at he
 case h_2=>simp at he
 rename_i id hid
 simp only[oIE]at he
 subst he
 obtain⟨q1,q2⟩:=Tdw S (Tag S hx hv) hc hcond.2
 obtain⟨S2,T2⟩:=S.newGr (Tay hid) (Tbb hid) (e:=e) h0 (l:= [c]) (by simpa using hcond.1) (cs:= (a.eval x).cells) (by simpa using q1) q2 (by simp[maxLen])
 refine EffOK.mk' (u:= .pointer (some ⟨w.heap.size,0,none⟩)) rfl ?_ S2 (Thd (Tac _ _ _) (Tai _ _ _))
 simp[execOp,ho,Instr.box,newVar,Go.newRow]
theorem T0z (S:Sim base w0 lm0 N g a w s){e k:Nat}(h0:0<k){c:List PV}{z:Value}{call:Call}{d:Nat}{r:Eff}(ho:o.op= .alloc e)(hz: (P.info? e).bind (·.zero)=some z)(hok:okZ z.cells.toList c=true)(hk:c.length=k)
 (he:eff call s d (.alr e k c)=some r):EffOK P base w0 lm0 N g a w s o r:=by
 simp only[eff]at he
 split at he
 case h_2=>simp at he
 rename_i id hid
 simp only[oIE]at he
 subst he
 obtain⟨h2,h3⟩:=Tb9 (w:=w) (lm:=g.lm) hok
 obtain⟨S2,T2⟩:=S.newGr (Tay hid) (Tbb hid) (e:=e) h0 (l:= [c.map .p]) (by simpa using hk) (cs:=z.cells) (by simpa using h2.qrepl) h3 (by simp[maxLen])
 refine EffOK.mk' (u:= .pointer (some ⟨w.heap.size,0,none⟩)) rfl ?_ S2 (Thd (Tac _ _ _) (Tai _ _ _))
 simp[execOp,ho,Instr.alloc,Tdj hz,newVar,Go.newRow]
theorem Sim.setGr (S:Sim base w0 lm0 N g a w s){d e k:Nat}{l l':List (List RV)}(hd:get s.h d=some (.gr e k l))(hl:l'.length=l.length)(hk:∀ c∈l',c.length=k){b:Nat}{xs:List Value}{cur:Array Value}{cap:Nat}(hv:g.v d= .slice (some ⟨b,0,none⟩) l.length cap)(hb:base<=b)(hc:l.length<=cap)(hm:cap<=maxLen)
 (hg:w.heap[b]?=some (.cells cur e (0,0))) {new:Array Value} (hn:new.size=cap*k) (hq:QRepL w g (get s.h) l'.flatten xs) (hx:new.toList.take (l.length*k)=xs) (h1:∀ u∈xs,u.oneCell'=true) :
 Sim base w0 lm0 N g a (w.setRow b new) ⟨s.t,AM.put s.h d (.gr e k l')⟩:=by
 have hblk:blk (g.v d)=some b:=by rw[hv]; rfl
 have hlm:g.lm b=0:= (S.ob d _ hd).2.2.2 b hblk
 have hext:Ext w g.lm (w.setRow b new) g.lm:=by
  exact Ext.blocks fun b' _ h0=> ⟨setRow_other w b b' new (fun e'=>by subst e'; omega),rfl⟩
 have T:Tr w g (get s.h) (w.setRow b new) g (get (AM.put s.h d (.gr e k l'))):= ⟨hext,fun d1 o1 hd1=> .inr ⟨rfl,by
  by_cases e':d=d1
  · subst e'
    rw[hd]at hd1
    obtain rfl:=oIj hd1
    exact⟨_,Tac _ _ _,rfl,hl.symm⟩
  · exact⟨o1,by rw[Tae _ e']; exact hd1,Shp.refl _⟩⟩⟩
 refine S.cells hd ⟨rfl,hl.symm⟩ rfl (fun x hi=>by rw[hi.plain rfl]; exact .self _ _) hext (below_setRow (Below.refl _ _) hb _) (fun e1 k1 l1 he ys hw=> ?_) (fun b' hb' _=> ⟨setRow_other _ _ _ _ (fun e=>hb' d (.self _ _) (by rw[hblk,e])),rfl⟩) ⟨(S.ob d _ hd).1,hk,⟨xs,?_,h1⟩,fun b' hb'=> ?_⟩
 · simp only[Ob.gr.injEq]at he
   obtain⟨rfl,rfl,rfl⟩:=he
   have:ys=xs:=by rw[Toj hw hv (setRow_heap _ _ _ _ _ _ hg),hl]; exact hx
   rw[this]
   exact hq.tr T
 · refine⟨?_,.inr ⟨b,cap,new,by rw[hl]; exact hv,hb,setRow_heap _ _ _ _ _ _ hg,by omega,hm,hn,by rw[hl]; exact hx⟩⟩
   rw[← hq.length,Toi hk]
 · rw[hblk]at hb'
   obtain rfl:=oIj hb'
   exact hlm
theorem Sim.stoGr (S:Sim base w0 lm0 N g a w s){t:TypeId}{k:Nat}(h0:0<k){x y:Operand}(ho:o.op= .store t x y)(hk:P.cellsOf t=k){d' i j e k':Nat}{l:List (List RV)}{c yc:List RV}(hd:get s.h d'=some (.gr e k' l))(hr:SRep w g (get s.h) (.mp d' i j) (a.eval x))(hc:l[i]?=some c)(hle:j+k<=c.length)(hyk:yc.length=k)
 (hq:QRepL w g (get s.h) yc (a.eval y).cells.toList) (hc1:∀ u∈ (a.eval y).cells.toList,u.oneCell'=true):EffOK P base w0 lm0 N g a w s o ⟨undefS,[(d',.gr e k' (l.set i (c.take j++yc++c.drop (j+k))))]⟩:=by
 obtain⟨_,hk',b,xs0,hu,hb,hown,hq0,h1⟩:=S.gro hd hr
 have hil:i<l.length:= (List.getElem?_eq_some_iff.1 hc).1
 have hck:c.length=k':=hk' c (List.mem_of_getElem? hc)
 rcases hown.2 with⟨hv,_⟩ | ⟨b',cap,cur,hv,q1,hg,q3,q4,q5,hxs⟩
 · rw[hv]at hb; simp[blk]at hb
 have hbb:b'=b:=by rw[hv]at hb; simpa[blk]using hb
 subst hbb
 have hvn: (a.eval y).cells.size=k:=by have:=hq.length; simp at this; omega
 have hin:=fl_in (k:=k') hil
 have hcap:l.length*k'<=cap*k':=Nat.mul_le_mul_right k' q3
 have hxl:xs0.length=l.length*k':=by rw[← hq0.length,Toi hk']
 have hst:=run_storeCells_at P b' (i*k'+j) e (a.eval y).cells.toList 0 cur w hg (by simp; omega) hc1
 simp only[Nat.add_zero,Array.length_toList,hvn]at hst
 have hrun: (execOp a.eval o).run P w= .ok .skip (w.setRow b' (cur.toList.take (i*k'+j)++ (a.eval y).cells.toList++cur.toList.drop (i*k'+j+k)).toArray):=by
  simp only[execOp,ho,Instr.storeAt,hu,Instr.sureAddr,storeVar,Sem.run_bind,Sem.run_pure,Result.andThen_ok,Tao hk h0,hvn,ne_eq,not_true,if_false,hst]
 have hnk:∀ c'∈l.set i (c.take j++yc++c.drop (j+k)),c'.length=k':=by
  intro c' hc'
  rcases List.mem_or_eq_of_mem_set hc' with h2 | h2
  · exact hk' _ h2
  · rw[h2]; simp; omega
 have hnew: ((cur.toList.take (i*k'+j)++ (a.eval y).cells.toList++cur.toList.drop (i*k'+j+k)).toArray.toList.take (l.length*k'))=xs0.take (i*k'+j)++ (a.eval y).cells.toList++xs0.drop (i*k'+j+k):=by
  rw[← hxs]
  simp only[List.take_append,List.length_append,List.length_take,Array.length_toList,List.take_take,List.drop_take,hvn]
  rw[List.take_of_length_le (l:= (a.eval y).cells.toList) (by simp; omega)]
  congr 2
  · congr 1; omega
  · congr 1; omega
 have S2:=S.setGr hd (l':=l.set i (c.take j++yc++c.drop (j+k))) (by simp) hnk hv q1 q3 q4 hg (new:= (cur.toList.take (i*k'+j)++ (a.eval y).cells.toList++cur.toList.drop (i*k'+j+k)).toArray) (by simp; omega)
  (xs:=xs0.take (i*k'+j)++ (a.eval y).cells.toList++xs0.drop (i*k'+j+k)) (by rw[T3c hk' hc hle hyk]; exact((hq0.take _).append hq).append (hq0.drop _)) hnew (by
   intro u hu
   simp only[List.mem_append]at hu
   rcases hu with(hu | hu) | hu
   · exact h1 u (List.mem_of_mem_take hu)
   · exact hc1 u hu
   · exact h1 u (List.mem_of_mem_drop hu))
 exact⟨undef,_,_,.inr ⟨hrun,rfl⟩,S2,Rep.sc _⟩
theorem Tw8 (S:Sim base w0 lm0 N g a w s){t:TypeId}{k:Nat}(h0:0<k){x y:Operand}{x' y':X}{call:Call}{d:Nat}{r:Eff}(ho:o.op= .store t x y)(hk:P.cellsOf t=k)(hx:okX x x'=true)(hy:okX y y'=true)(he:eff call s d (.stor k x' y')=some r):EffOK P base w0 lm0 N g a w s o r:=by
 simp only[eff]at he
 split at he
 case h_2=>simp at he
 rename_i d' i j v hvx hvy
 split at he
 case h_2=>simp at he
 rename_i yc hyc
 split at he
 case isFalse=>simp at he
 rename_i hcond
 split at he
 case h_2=>simp at he
 rename_i e k' l hd
 split at he
 case h_2=>simp at he
 rename_i c hc
 split at he
 case isFalse=>simp at he
 rename_i hle
 simp only[oIE]at he
 subst he
 obtain⟨q1,q2⟩:=Tdw S (Tag S hy hvy) hyc hcond.2
 exact S.stoGr h0 ho hk hd (Tag S hx hvx) hc hle hcond.1 q1 q2
theorem Fz.gr {o':Option Ob}{e k:Nat}{l:List (List RV)}(h:Fz (some (.gr e k l)) o'):o'=some (.gr e k l):=by
 unfold Fz at h
 exact h.symm
theorem Ts3 (S:Sim base w0 lm0 N g a w s){t:TypeId}{k:Nat}(h0:0<k){x y:Operand}{x' y':X}{call:Call}{d:Nat}{r:Eff}(ho:o.op= .store t x y)(hk:P.cellsOf t=k)(hx:okX x x'=true)(hy:okX y y'=true)(he:eff call s d (.storf k x' y')=some r):EffOK P base w0 lm0 N g a w s o r:=by
 simp only[eff]at he
 split at he
 case h_2=>simp at he
 rename_i d' i j v hvx hvy
 split at he
 case h_2=>simp at he
 rename_i z fr hf
 split at he
 case h_2=>simp at he
 rename_i yc hyc
 split at he
 case isFalse=>simp at he
 rename_i hyk
 split at he
 case h_2=>simp at he
 rename_i e k' l hd
 split at he
 case h_2=>simp at he
 rename_i c hc
 split at he
 case isFalse=>simp at he
 rename_i hle
 simp only[oIE]at he
 subst he
 obtain⟨lm',S1,r1,T1,F1⟩:=Tc0 S (fun d=>Fz.refl _) (Tag S hy hvy) hf
 have hd1:= (hd▸F1 d':Fz (some (.gr e k' l)) _).gr
 obtain⟨q1,q2⟩:=r1.cells hyc
 obtain⟨u,w',g',hrun,S2,R2⟩:=S1.stoGr h0 ho hk hd1 ((Tag S hx hvx).tr T1) hc hle (yc:=yc.map .p) (by simpa using hyk) q1.qrepl q2
 exact⟨u,w',g',hrun,by rw[Tak]; exact S2,by rw[Tak]; exact R2⟩
inductive PartsQ (w:World) (g:Gs) (h:Nat->Option Ob) (place:Nat->Option (Nat×Nat)):List (Nat×Nat×List RV)->List (Nat×Value)->Prop
 | nil:PartsQ w g h place [] []
 | cons {off n c i v ps vs}:place i=some (off,n)->QRepL w g h c v.cells.toList-> (∀ u∈v.cells.toList,u.oneCell'=true)->PartsQ w g h place ps vs->PartsQ w g h place ((off,n,c)::ps) ((i,v)::vs)
theorem The {g:Gs}{h:Nat->Option Ob}{place:Nat->Option (Nat×Nat)}:∀ {ps:List (Nat×Nat×List RV)} {vs:List (Nat×Value)} {z cs:List RV} {zc:Array Value},PartsQ w g h place ps vs->fillQ z ps=some cs->QRepL w g h z zc.toList-> (∀ u∈zc.toList,u.oneCell'=true) ->
 ∃ cc,Instr.fill place zc vs=some cc/\QRepL w g h cs cc.toList/\∀ u∈cc.toList,u.oneCell'=true
 | [],_,z,cs,zc,.nil,hh,hr,h1=>by
  simp only[fillQ,oIE]at hh
  subst hh
  exact⟨zc,rfl,hr,h1⟩
 | (off,n,c)::ps,_,z,cs,zc,.cons (i:=i) (v:=v) (vs:=vs) hp hcr hc1 hps,hh,hr,h1=>by
  simp only[fillQ]at hh
  split at hh
  case isFalse=>simp at hh
  rename_i hcn
  obtain⟨hlen,hle⟩:=hcn
  have hvl:v.cells.size=n:=by have:=hcr.length; simp at this; omega
  have hzl:z.length=zc.size:=by simpa using hr.length
  have hfs:=Tj0 v.cells.toList off 0 zc (by simp; omega)
  simp only[Nat.add_zero,Array.length_toList,hvl]at hfs
  have hr':QRepL w g h (z.take off++c++z.drop (off+n)) (zc.toList.take off++v.cells.toList++zc.toList.drop (off+n)):= ((hr.take off).append hcr).append (hr.drop (off+n))
  have e1: (v.cells.zipIdx.foldl (fun cs (p:Value×Nat)=>cs.setIfInBounds (off+p.2) p.1) zc).toList=zc.toList.take off++v.cells.toList++zc.toList.drop (off+n):=by
   rw[← hfs,← Array.foldl_toList]
   simp
  have:=The (ps:=ps) (vs:=vs) (cs:=cs) (zc:=v.cells.zipIdx.foldl (fun cs (p:Value×Nat)=>cs.setIfInBounds (off+p.2) p.1) zc) hps hh (by rw[e1]; exact hr') (by
   rw[e1]
   intro u hu
   simp only[List.mem_append]at hu
   rcases hu with(hu | hu) | hu
   · exact h1 u (List.mem_of_mem_take hu)
   · exact hc1 u hu
   · exact h1 u (List.mem_of_mem_drop hu))
  obtain⟨cc,h3,h4,h5⟩:=this
  refine⟨cc,?_,h4,h5⟩
  rw[Instr.fill]
  simp only[hp]
  rw[if_neg (by simp[hvl]; omega)]
  exact h3
theorem Te6 (S:Sim base w0 lm0 N g a w s){place:Nat->Option (Nat×Nat)}:∀ {ps:List (Nat×Operand)} {qs:List (Nat×Nat×X)} {vs:List SV} {cs:List (List RV)},okPs place ps qs=true->SRepL w g (get s.h) vs (ps.map fun p=>a.eval p.2)->vs.all (liveV s.h)=true->rcellss vs=some cs ->
 PartsQ w g (get s.h) place ((qs.zip cs).map fun q=> (q.1.1,q.1.2.1,q.2)) (ps.map fun p=> (p.1,a.eval p.2))
 | [],[],vs,cs,h,hr,hl,hc=> .nil
 | (i,x)::ps,(off,n,y)::qs,vs,cs,h,hr,hl,hc=>by
  simp only[okPs,Bool.and_eq_true]at h
  obtain⟨⟨hp,hx⟩,h⟩:=h
  cases hr with
  | cons r1 r2 =>
   rename_i v vs'
   simp only[List.all_cons,Bool.and_eq_true]at hl
   simp only[rcellss]at hc
   split at hc
   case h_2=>simp at hc
   rename_i c hc0
   split at hc
   case h_2=>simp at hc
   rename_i cs' hcs
   obtain rfl:=oIj hc
   obtain⟨q1,q2⟩:=Tdw S r1 hc0 hl.1
   refine .cons ?_ q1 q2 (Te6 S h r2 hl.2 hcs)
   cases hpl:place i with
   | none=>rw[hpl]at hp; simp at hp
   | some q =>
    obtain⟨o',n'⟩:=q
    rw[hpl]at hp
    simp at hp
    rw[hp.1,hp.2]
 | [],_::_,_,_,h,_,_,_=>by simp[okPs]at h
 | _::_,[],_,_,h,_,_,_=>by simp[okPs]at h
theorem Tok (S:Sim base w0 lm0 N g a w s){t:TypeId}{fs:Array Field}{zv:Value}{z:List PV}{ps:Array (Nat×Operand)}{qs:List (Nat×Nat×X)}(ho:o.op= .build t ps)(ht:P.underlying t=some (.struct fs))(hz: (P.info? t).bind (·.zero)=some zv)(hok:okZ zv.cells.toList z=true)
 (hsz:sizesOk P fs.toList=true) (hps:okPs (fun i=> (fs[i]?).map fun f=> (f.offset,P.cellsOf f.type)) ps.toList qs=true) {vs:List SV} (hr:SRepL w g (get s.h) vs (ps.toList.map fun p=>a.eval p.2)) (hl:vs.all (liveV s.h)=true) {cs:List (List RV)} (hcs:rcellss vs=some cs) {l:List RV} (hf:fillQ (z.map .p) ((qs.zip cs).map fun q=> (q.1.1,q.1.2.1,q.2))=some l) :
 EffOK P base w0 lm0 N g a w s o ⟨.sst l,[]⟩:=by
 have hp:=Te6 S hps hr hl hcs
 obtain⟨z1,z2⟩:=Tb9 (w:=w) (lm:=g.lm) hok
 obtain⟨cc,h3,h4,h5⟩:=The hp hf z1.qrepl z2
 refine EffOK.pure S (u:= .agg cc) ?_ ⟨cc.toList,by simp,h4,h5⟩
 have e1: (fun i:Nat=> ((fs.map fun f=> (f.offset,P.cellsOf f.type))[i]?:Option (Nat×Nat)))=fun i=> (fs[i]?).map fun f=> (f.offset,P.cellsOf f.type):=by
  funext i; simp
 simp only[execOp,ho,Instr.build,Sem.run_bind,Tdj hz,Result.andThen_ok,run_underlying ht,Tix fs hsz,Sem.run_pure,Array.toList_map]
 rw[e1]
 have h3':Instr.fill (fun i=> (fs[i]?).map fun f=> (f.offset,P.cellsOf f.type)) zv.cells (ps.toList.map fun x=> (x.1,a.eval x.2))=some cc:=h3
 simp only[h3']
 rfl
theorem Tw9 (S:Sim base w0 lm0 N g a w s){t:TypeId}{fs:Array Field}{zv:Value}{z:List PV}{ps:Array (Nat×Operand)}{qs:List (Nat×Nat×X)}{call:Call}{d:Nat}{r:Eff}(ho:o.op= .build t ps)(ht:P.underlying t=some (.struct fs))(hz: (P.info? t).bind (·.zero)=some zv)(hok:okZ zv.cells.toList z=true)
 (hsz:sizesOk P fs.toList=true) (hps:okPs (fun i=> (fs[i]?).map fun f=> (f.offset,P.cellsOf f.type)) ps.toList qs=true) (he:eff call s d (.bldr z qs)=some r):EffOK P base w0 lm0 N g a w s o r:=by
 simp only[eff]at he
 split at he
 case h_2=>simp at he
 rename_i vs hv
 split at he
 case isFalse=>simp at he
 rename_i hl
 split at he
 case h_2=>simp at he
 rename_i cs hcs
 split at he
 case h_2=>simp at he
 rename_i l hf
 simp only[oIE]at he
 subst he
 exact Tok S ho ht hz hok hsz hps (Tcc (P:=P) S hps hv).1 hl hcs hf
theorem Tol:∀ {vs:List SV} {us:List Value} {g:Gs} {s:St} {xs:List SV} {fr:List (Nat×Ob)} {h0:List (Nat×Ob)} (S:Sim base w0 lm0 N g a w s) (hf:∀ d,Fz (get h0 d) (get s.h d)) (hr:SRepL w g (get s.h) vs us) (he:fzvs h0 vs=some (xs,fr)),
 ∃ lm',Sim base w0 lm0 N ⟨lm',g.v⟩ a w ⟨s.t,putAll s.h fr⟩/\SRepL w ⟨lm',g.v⟩ (get (putAll s.h fr)) xs us/\Tr w g (get s.h) w ⟨lm',g.v⟩ (get (putAll s.h fr))/\∀ d,Fz (get h0 d) (get (putAll s.h fr) d)
 | [],_,g,s,xs,fr,h0,S,hf,.nil,he=>by
  simp only[fzvs,oIE,Prod.mk.injEq]at he
  obtain⟨rfl,rfl⟩:=he
  exact⟨g.lm,S,.nil,⟨Ext.refl _ _,fun d o h=> .inr ⟨rfl,o,h,Shp.refl _⟩⟩,hf⟩
 | v::vs,_,g,s,xs,fr,h0,S,hf,.cons (u:=u0) (us:=us') hv hvs,he=>by
  simp only[fzvs]at he
  split at he
  case h_2=>simp at he
  rename_i x f1 h1
  split at he
  case h_2=>simp at he
  rename_i ys f2 h2
  simp only[oIE,Prod.mk.injEq]at he
  obtain⟨rfl,rfl⟩:=he
  have one:∃ lm',Sim base w0 lm0 N ⟨lm',g.v⟩ a w ⟨s.t,putAll s.h f1⟩/\SRep w ⟨lm',g.v⟩ (get (putAll s.h f1)) x u0/\Tr w g (get s.h) w ⟨lm',g.v⟩ (get (putAll s.h f1))/\∀ d,Fz (get h0 d) (get (putAll s.h f1) d):=by
   have keep:x=v/\f1= []->∃ lm',Sim base w0 lm0 N ⟨lm',g.v⟩ a w ⟨s.t,putAll s.h f1⟩/\SRep w ⟨lm',g.v⟩ (get (putAll s.h f1)) x u0/\Tr w g (get s.h) w ⟨lm',g.v⟩ (get (putAll s.h f1))/\∀ d,Fz (get h0 d) (get (putAll s.h f1) d):=by
    rintro⟨rfl,rfl⟩
    exact⟨g.lm,S,hv,⟨Ext.refl _ _,fun d o h=> .inr ⟨rfl,o,h,Shp.refl _⟩⟩,hf⟩
   cases v with
   | ms d off n =>
    simp only[fzv]at h1
    split at h1
    · split at h1
      case h_2=>simp at h1
      rename_i y fr' hfz
      simp only[oIE,Prod.mk.injEq]at h1
      obtain⟨rfl,rfl⟩:=h1
      obtain⟨lm',S1,r1,T1,F1⟩:=Tc0 S hf hv hfz
      exact⟨lm',S1,r1,T1,F1⟩
    · simp only[oIE,Prod.mk.injEq]at h1
      exact keep ⟨h1.1.symm,h1.2.symm⟩
   | _=>simp only[fzv,oIE,Prod.mk.injEq]at h1; exact keep ⟨h1.1.symm,h1.2.symm⟩
  obtain⟨lm1,S1,r1,T1,F1⟩:=one
  obtain⟨lm2,S2,r2,T2,F2⟩:=Tol S1 F1 (hvs.tr T1) h2
  rw[Tak]
  exact⟨lm2,S2,.cons (r1.tr T2) r2,T1.trans T2,F2⟩
theorem T00 {h h':List (Nat×Ob)}(hf:∀ d,Fz (get h d) (get h' d)){v:SV}(hl:liveV h v=true):liveV h' v=true:=by
 unfold liveV at hl ⊢
 rw[List.all_eq_true]at hl ⊢
 intro d hd
 have h1:=hl d hd
 have h2:=hf d
 unfold liveR at h1 ⊢
 cases hg:get h d with
 | none=>rw[hg]at h1; simp at h1
 | some o1 =>
  rw[hg]at h1 h2
  cases hg':get h' d with
  | none=>rw[hg']at h2; cases o1<;> simp[Fz]at h2
  | some o2 =>
   rw[hg']at h2
   cases o1 with
   | row e k fz l=>obtain⟨fz',hh⟩:=h2.row; rw[oIj hh]; rfl
   | _=>simp only[Fz,oIE]at h2; subst h2; exact h1
theorem Ts4 (S:Sim base w0 lm0 N g a w s){t:TypeId}{fs:Array Field}{zv:Value}{z:List PV}{ps:Array (Nat×Operand)}{qs:List (Nat×Nat×X)}{call:Call}{d:Nat}{r:Eff}(ho:o.op= .build t ps)(ht:P.underlying t=some (.struct fs))(hz: (P.info? t).bind (·.zero)=some zv)(hok:okZ zv.cells.toList z=true)
 (hsz:sizesOk P fs.toList=true) (hps:okPs (fun i=> (fs[i]?).map fun f=> (f.offset,P.cellsOf f.type)) ps.toList qs=true) (he:eff call s d (.bldrf z qs)=some r):EffOK P base w0 lm0 N g a w s o r:=by
 simp only[eff]at he
 split at he
 case h_2=>simp at he
 rename_i vs hv
 split at he
 case h_2=>simp at he
 rename_i vs2 fr hfz
 split at he
 case isFalse=>simp at he
 rename_i hl
 split at he
 case h_2=>simp at he
 rename_i cs hcs
 split at he
 case h_2=>simp at he
 rename_i l hf
 simp only[oIE]at he
 subst he
 obtain⟨lm',S1,r1,T1,F1⟩:=Tol S (fun d=>Fz.refl _) (Tcc (P:=P) S hps hv).1 hfz
 obtain⟨u,w',g',hrun,S2,R2⟩:=Tok S1 ho ht hz hok hsz hps r1 (by
  rw[List.all_eq_true]at hl ⊢
  exact fun v hv=>T00 F1 (hl v hv)) hcs hf
 exact⟨u,w',g',hrun,S2,R2⟩
end
end Go.Proofs.YtjpibniecllafaaGreat.AM
end
