/- Made by pack.py: AM3, AM4, AM5, AM6, AM7, AM8. No condition but what each says. -/
import Derived.Test.YtjpibniecllafaaGreatC0
import Derived.Laws.StructEq
import Derived.Laws.BytesString
set_option linter.unusedSimpArgs false
set_option linter.unusedVariables false
set_option maxHeartbeats 16000000
section
namespace Go.Proofs.YtjpibniecllafaaGreat.AM
open Go Go.RowKit
def Shp:Ob->Ob->Prop
 | .row _ k _ l,.row _ k' _ l'=>k=k'/\l.length=l'.length
 | .it ..,.it .. =>True
 | .dp _ k l,.dp _ k' l'=>k=k'/\l.length=l'.length
 | .row _ k _ l,.dp _ k' l'=>k=k'/\l.length=l'.length
 | .dp _ k l,.row _ k' _ l'=>k=k'/\l.length=l'.length
 | .dead,.dead=>True
 | .gr _ k l,.gr _ k' l'=>k=k'/\l.length=l'.length
 | .mpo ..,.mpo .. =>True
 | .pin l,.pin l'=>l=l'
 | _,_=>False
theorem Shp.refl:∀ o,Shp o o
 | .row .. => ⟨rfl,rfl⟩
 | .it .. =>trivial
 | .dp .. => ⟨rfl,rfl⟩
 | .dead=>trivial
 | .gr .. => ⟨rfl,rfl⟩
 | .mpo .. =>trivial
 | .pin _=>rfl
structure Tr (w:World) (g:Gs) (h:Nat->Option Ob) (w':World) (g':Gs) (h':Nat->Option Ob):Prop where
 ext:Ext w g.lm w' g'.lm
 hp:∀ d o,h d=some o-> (o.live=true/\h' d=some .dead)∨ (g'.v d=g.v d/\∃ o',h' d=some o'/\Shp o o')
theorem QRep.tr {w g h w' g' h'} (T:Tr w g h w' g' h') {v u} (r:QRep w g h v u):QRep w' g' h' v u:=by
  cases v with
  | p x=>exact Rep.ext T.ext r
  | ms d off len =>
    simp only[QRep]at r ⊢
    cases hd:h d with
    | none=>rw[hd]at r; exact r.elim
    | some o =>
      rw[hd]at r
      rcases T.hp d o hd with⟨_,h1⟩ | ⟨h1,o',h2,h3⟩
      · rw[h1]; trivial
      · rw[h2]
        cases o<;> cases o'<;> simp only[Shp]at h3<;> first | exact h3.elim | exact r.elim | trivial | skip
        all_goals
          obtain⟨rfl,h4⟩:=h3
          dsimp only at r ⊢; rw[← h4,h1]; exact r
  | mp d i j =>
    simp only[QRep]at r ⊢
    cases hd:h d with
    | none=>rw[hd]at r; exact r.elim
    | some o =>
      rw[hd]at r
      rcases T.hp d o hd with⟨_,h1⟩ | ⟨h1,o',h2,h3⟩
      · rw[h1]; trivial
      · rw[h2]
        cases o<;> cases o'<;> simp only[Shp]at h3<;> first | exact h3.elim | exact r.elim | trivial | skip
        all_goals
          first
          | (obtain⟨rfl,h4⟩:=h3
             rw[h1]; exact r)
          | (rw[h1]; exact r)
  | mo d =>
    simp only[QRep]at r ⊢
    cases hd:h d with
    | none=>rw[hd]at r; exact r.elim
    | some o =>
      rw[hd]at r
      rcases T.hp d o hd with⟨_,h1⟩ | ⟨h1,o',h2,h3⟩
      · rw[h1]; trivial
      · rw[h2]
        cases o<;> cases o'<;> simp only[Shp]at h3<;> first | exact h3.elim | exact r.elim | trivial | skip
        all_goals
          dsimp only at r ⊢; rw[h1]; exact r
theorem QRepL.tr {w g h w' g' h'}(T:Tr w g h w' g' h'):∀ {l vs},QRepL w g h l vs->QRepL w' g' h' l vs
 | _,_,.nil=> .nil
 | _,_,.cons a b=> .cons (QRep.tr T a) (QRepL.tr T b)
theorem QRep.sv {w g h}:∀ {v u},QRep w g h v u↔SRep w g h v.sv u
 | .p _,_=>Iff.rfl
 | .ms ..,_=>Iff.rfl
 | .mp ..,_=>Iff.rfl
 | .mo _,_=>Iff.rfl
theorem SV.rv_sv {v:SV}{r:RV}(h:v.rv=some r):v=r.sv:=by
 cases v<;> simp[SV.rv]at h<;> subst h<;> rfl
theorem SRep.tr {w g h w' g' h'}(T:Tr w g h w' g' h'){v u}(r:SRep w g h v u):SRep w' g' h' v u:=by
 cases v with
 | p x=>exact Rep.ext T.ext r
 | xs k l =>
  obtain⟨a,h1,h2,h3,h4⟩:=r
  refine⟨a,h1,h2,h3,h4.imp id ?_⟩
  rintro⟨b,o,vs,e,hr,hm⟩
  exact⟨b,o,vs,e,hr.ext T.ext,hm.ext T.ext⟩
 | ms d off len=>exact QRep.sv.1 (QRep.tr T (v:= .ms d off len) (QRep.sv.2 r))
 | mp d i j=>exact QRep.sv.1 (QRep.tr T (v:= .mp d i j) (QRep.sv.2 r))
 | mo d=>exact QRep.sv.1 (QRep.tr T (v:= .mo d) (QRep.sv.2 r))
 | sst l=>obtain⟨vs,h1,h2,h3⟩:=r; exact⟨vs,h1,h2.tr T,h3⟩
 | stu l=>obtain⟨vs,h1,h2⟩:=r; exact⟨vs,h1,h2.tr T⟩
 | fnv f l=>obtain⟨vs,h1,h2⟩:=r; exact⟨vs,h1,h2.tr T⟩
theorem Tz1 {w g h w' g' h'}(T:Tr w g h w' g' h'){l:List Nat}(hp:h 999999=some (.pin l)/\∀ d∈l,d=999999∨h d≠none):h' 999999=some (.pin l)/\∀ d∈l,d=999999∨h' d≠none:=by
 constructor
 · rcases T.hp _ _ hp.1 with⟨h3,_⟩ | ⟨_,o',h3,h4⟩
   · simp[Ob.live]at h3
   · cases o'<;> simp only[Shp]at h4
     subst h4
     exact h3
 · intro d hd
   rcases hp.2 d hd with h1 | h1
   · exact .inl h1
   · right
     cases ho:h d with
     | none=>exact absurd ho h1
     | some o =>
      rcases T.hp _ _ ho with⟨_,h3⟩ | ⟨_,o',h3,_⟩
      · rw[h3]; simp
      · rw[h3]; simp
theorem Tav {w w':World}{base:Nat}{e k:Nat}{v:Value}{n:Nat}{xs:List Value}(h:w.ownsRow base e k v n xs)(hb:∀ b,blk v=some b->w'.heap[b]?=w.heap[b]?):w'.ownsRow base e k v n xs:=by
 refine⟨h.1,?_⟩
 rcases h.2 with h | ⟨b,cap,cur,rfl,h1,h2,rest⟩
 · exact .inl h
 · exact .inr ⟨b,cap,cur,rfl,h1,by rw[hb b rfl]; exact h2,rest⟩
theorem ORep.keep {w g base d o w' g'}(h:ORep w g base d o)(hv:∀ x,Ids d o x->g'.v x=g.v x)(hx:Ext w g.lm w' g'.lm)(hb:o.live=true->∀ x,Ids d o x->∀ b,blk (g.v x)=some b->w'.heap[b]?=w.heap[b]?/\g'.lm b=g.lm b):ORep w' g' base d o:=by
 have hvd:=hv d (.self _ _)
 cases o with
 | row e k fz l =>
  obtain⟨h1,h2,⟨xs,h3,h4,h5⟩,h6⟩:=h
  refine⟨h1,h2,⟨xs,?_,h4.ext hx,h5⟩,fun b hbk=> ?_⟩
  · rw[hvd]; exact Tav h3 fun b e=> (hb rfl d (.self _ _) b e).1
  · rw[hvd]at hbk; rw[(hb rfl d (.self _ _) b hbk).2]; exact h6 b hbk
 | it s pos =>
  obtain⟨b,h1,h2,h3⟩:=h
  exact⟨b,hvd.trans h1,h2,by rw[(hb rfl d (.self _ _) b (by rw[h1]; rfl)).1]; exact h3⟩
 | dp e k l =>
  obtain⟨h1,h2,⟨xs,h3,h4,h5,h7⟩,h6,h8⟩:=h
  refine⟨h1,h2,⟨xs,?_,h4.ext hx,h5,fun p e' k' l' hp hk=> ?_⟩,fun b hbk=> ?_,fun p hp=> ?_⟩
  · rw[hvd]; exact Tav h3 fun b e=> (hb rfl d (.self _ _) b e).1
  · have hi:Ids d (.dp e k l) (nid d p):= .dp hp hk
    obtain⟨q1,q2,q3,⟨ys,q4,q5,q6⟩,q7⟩:=h7 p e' k' l' hp hk
    have e1:=hv _ hi
    refine⟨by rw[e1]; exact q1,q2,q3,⟨ys,?_,q5.ext hx,q6⟩,fun b hbk=> ?_⟩
    · rw[e1]; exact Tav q4 fun b e=> (hb rfl _ hi b e).1
    · rw[e1]at hbk; rw[(hb rfl _ hi b hbk).2]; exact q7 b hbk
  · rw[hvd]at hbk; rw[(hb rfl d (.self _ _) b hbk).2]; exact h6 b hbk
  · obtain⟨b,q1,q2⟩:=h8 p hp
    refine⟨b,by rw[hvd]; exact q1,?_⟩
    rw[World.cell?_of_block (a:= ⟨b,p,none⟩) (hb rfl d (.self _ _) b (by rw[q1]; rfl)).1]
    exact q2
 | dead=>trivial
 | gr e k l =>
  obtain⟨h1,h2,⟨xs,h3,h5⟩,h6⟩:=h
  refine⟨h1,h2,⟨xs,?_,h5⟩,fun b hbk=> ?_⟩
  · rw[hvd]; exact Tav h3 fun b e=> (hb rfl d (.self _ _) b e).1
  · rw[hvd]at hbk; rw[(hb rfl d (.self _ _) b hbk).2]; exact h6 b hbk
 | mpo U fl G F =>
  have hi:∀ p,p<3+U.length->g'.v (nid d p)=g.v (nid d p):=fun p hp=>hv _ (.mpo hp)
  have mk:∀ p l,p<3+U.length->MapAt w g base (nid d p) l->MapAt w' g' base (nid d p) l:=fun p l hp ⟨b,h1,h2,h3,h4⟩=>by
   have:=hb rfl _ (.mpo hp) b (by rw[h1]; rfl)
   exact⟨b,(hi p hp).trans h1,h2,h3.keep this.1,this.2.trans h4⟩
  obtain⟨h0,⟨b,h1,h2,h3,h4⟩,⟨xs,h5,h6⟩,h7,h8,h9,h10⟩:=h
  have hbb:=hb rfl d (.self _ _) b (by rw[h1]; rfl)
  have hul:∀ i u,xs[i]?=some u->i<U.length:=fun i u hu=>by
   have:= (List.getElem?_eq_some_iff.1 hu).1
   have:=h5.1
   omega
  refine⟨h0,⟨b,hvd.trans h1,h2,hbb.2.trans h3,?_⟩,⟨xs,?_,fun i u hu=> ?_⟩,fun b hbk=> ?_,fun i l hl=> ?_,mk 1 G (by omega) h9,mk 2 F (by omega) h10⟩
  · rw[hbb.1,h4,hi 0 (by omega),hi 1 (by omega),hi 2 (by omega)]
  · rw[hi 0 (by omega)]
    exact Tav h5 fun b e=> (hb rfl _ (.mpo (p:=0) (by omega)) b e).1
  · rw[hi (3+i) (by have:=hul i u hu; omega)]; exact h6 i u hu
  · rw[hi 0 (by omega)]at hbk
    rw[(hb rfl _ (.mpo (p:=0) (by omega)) b hbk).2]; exact h7 b hbk
  · exact mk _ _ (by have:= (List.getElem?_eq_some_iff.1 hl).1; omega) (h8 i l hl)
 | pin l=>trivial
theorem Tar {w:World}{base e k n:Nat}{v:Value}{xs:List Value}(h3:w.ownsRow base e k v n xs){b:Nat}(hb:blk v=some b):base<=b/\b<w.heap.size:=by
 rcases h3.2 with⟨h,_⟩ | ⟨b',cap,cur,h,h1,h2,_⟩
 · rw[h]at hb; simp[blk]at hb
 · rw[h]at hb; simp[blk]at hb; subst hb
   exact⟨h1,(Array.getElem?_eq_some_iff.1 h2).1⟩
theorem ORep.blockI {w g base d o}(h:ORep w g base d o)(hl:o.live=true){x:Nat}(hi:Ids d o x){b:Nat}(hb:blk (g.v x)=some b):base<=b/\b<w.heap.size:=by
 cases o with
 | row e k fz l =>
  obtain rfl:=hi.plain rfl
  obtain⟨_,_,⟨xs,h3,_⟩,_⟩:=h
  exact Tar h3 hb
 | it s pos =>
  obtain rfl:=hi.plain rfl
  obtain⟨b',h1,h2,h3⟩:=h
  rw[h1]at hb; simp[blk]at hb; subst hb
  exact⟨h2,(Array.getElem?_eq_some_iff.1 h3).1⟩
 | dp e k l =>
  obtain⟨_,_,⟨xs,h3,_,_,h7⟩,_⟩:=h
  rcases hi with rfl | ⟨_,_,_,p,e',k',l',ho,hp,hk,rfl⟩ | ⟨_,_,_,_,p,ho,_⟩
  · exact Tar h3 hb
  · simp only[Ob.dp.injEq]at ho
    obtain⟨rfl,rfl,rfl⟩:=ho
    obtain⟨_,_,_,⟨ys,q4,_⟩,_⟩:=h7 p e' k' l' hp hk
    exact Tar q4 hb
  · simp at ho
 | dead=>simp[Ob.live]at hl
 | gr e k l =>
  obtain rfl:=hi.plain rfl
  obtain⟨_,_,⟨xs,h3,_⟩,_⟩:=h
  exact Tar h3 hb
 | mpo U fl G F =>
  obtain⟨h0,⟨b1,h1,h2,h3,h4⟩,⟨xs,h5,h6⟩,h7,h8,h9,h10⟩:=h
  have mk:∀ p l,MapAt w g base (nid d p) l->blk (g.v (nid d p))=some b->base<=b/\b<w.heap.size:=fun p l ⟨b',q1,q2,q3,_⟩ hb=>by
   rw[q1]at hb; simp[blk]at hb; subst hb
   exact⟨q2,q3.lt⟩
  rcases hi with rfl | ⟨_,_,_,p,_,_,_,ho,_⟩ | ⟨_,_,_,_,p,ho,hp,rfl⟩
  · rw[h1]at hb; simp[blk]at hb; subst hb
    exact⟨h2,(Array.getElem?_eq_some_iff.1 h4).1⟩
  · simp at ho
  · simp only[Ob.mpo.injEq]at ho
    obtain⟨rfl,rfl,rfl,rfl⟩:=ho
    rcases Nat.lt_or_ge p 3 with hp3 | hp3
    · rcases(show p=0∨p=1∨p=2 by omega)with rfl | rfl | rfl
      · exact Tar h5 hb
      · exact mk _ _ h9 hb
      · exact mk _ _ h10 hb
    · obtain⟨i,rfl⟩:∃ i,p=3+i:= ⟨p-3,by omega⟩
      exact mk _ _ (h8 i U[i] (List.getElem?_eq_getElem (by omega))) hb
 | pin l=>simp[Ob.live]at hl
theorem ORep.block {w g base d o}(h:ORep w g base d o)(hl:o.live=true){b:Nat}(hb:blk (g.v d)=some b):base<=b/\b<w.heap.size:=h.blockI hl (.self _ _) hb
section
variable {base:Nat}{w0:World}{lm0:L0}{N:Nat}{g:Gs}{a:Act}{w:World}{s:St}
theorem Sim.bw (S:Sim base w0 lm0 N g a w s):base<=w.heap.size:=by rw[S.bas]; exact S.below.size
theorem Sim.put (S:Sim base w0 lm0 N g a w s){d:Nat}{v:SV}{u:Value}(hd:d<N)(hr:SRep w g (get s.h) v u):Sim base w0 lm0 N g (a.put (some d) u) w ⟨put s.t d v,s.h⟩:=by
 refine⟨S.bas,by simp[Act.put,S.size],S.defers,S.below,S.lm,fun n v' hn=> ?_,S.ob,S.lt,S.ap,S.gs,S.ov,S.pn,S.px,S.fr⟩
 rw[Tbf]at hn
 by_cases h:d=n
 · subst h
   rw[if_pos rfl]at hn
   obtain rfl:=oIj hn
   exact⟨u,by simp[Act.put,S.size,hd],hr⟩
 · rw[if_neg h]at hn
   obtain⟨u',h1,h2⟩:=S.tm n v' hn
   exact⟨u',by simp only[Act.put]; rw[Array.getElem?_setIfInBounds_ne h]; exact h1,h2⟩
theorem Sim.turn (S:Sim base w0 lm0 N g a w s){w':World}{g':Gs}{h':List (Nat×Ob)}(T:Tr w g (get s.h) w' g' (get h'))(hb:Below base w w')(hl:∀ b,b<base->g'.lm b=g.lm b)
 (ho:∀ d o,get h' d=some o->ORep w' g' base d o)
 (hlt:∀ d o,get h' d=some o->d<1000000)
 (hap:∃ own:Nat->Nat,∀ d o x b,get h' d=some o->o.live=true->Ids d o x->blk (g'.v x)=some b->own b=x)
 (hgs:∀ d e k l,get h' d=some (.gr e k l)-> (get s.h d=some (.gr e k l)/\g'.v d=g.v d/\∀ b,blk (g.v d)=some b->w'.heap[b]?=w.heap[b]?)∨∀ xs,w'.ownsRow base e k (g'.v d) l.length xs->QRepL w' g' (get h') l.flatten xs)
 (hfr:∀ b,lm0.K b->b<w.heap.size->Free g (get s.h) b-> (w'.heap[b]?=w.heap[b]?/\g'.lm b=g.lm b)/\Free g' (get h') b):Sim base w0 lm0 N g' a w' ⟨s.t,h'⟩ :=
 ⟨S.bas,S.size,S.defers,S.below.trans hb,fun b h=> (hl b h).trans (S.lm b h),fun n v hn=>let⟨u,h1,h2⟩:=S.tm n v hn; ⟨u,h1,h2.tr T⟩,ho,hlt,hap,
  fun d e k l xs hd hw=>by
   rcases hgs d e k l hd with⟨h1,h2,h3⟩ | h1
   · rw[h2]at hw
     exact(S.gs d e k l xs h1 (Tav hw fun b hb=> (h3 b hb).symm)).tr T
   · exact h1 xs hw,
  fun v u hq=> (S.ov v u hq).tr T,S.pn,fun l hl=>Tz1 T (S.px l hl),
  ⟨S.fr.ex.trans T.ext,Nat.le_trans S.fr.sz hb.size,fun b hb=>by
   obtain⟨h1,h2⟩:=S.fr.kf b hb
   obtain⟨⟨h3,h4⟩,_⟩:=hfr b hb (Nat.lt_of_lt_of_le hb.2 S.fr.sz) (S.fr.kd b hb)
   exact⟨h3.trans h1,h4.trans h2⟩,fun b hb=> (hfr b hb (Nat.lt_of_lt_of_le hb.2 S.fr.sz) (S.fr.kd b hb)).2⟩⟩
theorem Sim.far (S:Sim base w0 lm0 N g a w s){d d':Nat}{o o':Ob}(h1:get s.h d=some o)(h2:get s.h d'=some o')(l1:o.live=true)(l2:o'.live=true){x x':Nat}(i1:Ids d o x)(i2:Ids d' o' x')(hne:x≠x'){b:Nat}(hb:blk (g.v x)=some b):blk (g.v x')≠some b:=fun hb'=>by
 obtain⟨own,hap⟩:=S.ap
 exact hne ((hap d o x b h1 l1 i1 hb).symm.trans (hap d' o' x' b h2 l2 i2 hb'))
theorem Sim.ne (S:Sim base w0 lm0 N g a w s){d d':Nat}{o o':Ob}(h1:get s.h d=some o)(h2:get s.h d'=some o')(hne:d≠d'){x x':Nat}(i1:Ids d o x)(i2:Ids d' o' x'):x≠x':=fun e=>by
 have q1:=i1.mod (S.lt _ _ h1)
 have q2:=i2.mod (S.lt _ _ h2)
 rw[e]at q1
 exact hne (q1.symm.trans q2)
def upd {α:Type}(f:Nat->α)(d:Nat)(x:α):Nat->α:=fun e=>if e=d then x else f e
theorem Tai {α:Type}(f:Nat->α)(d:Nat)(x:α):upd f d x d=x:=if_pos rfl
theorem Tbc {α:Type}(f:Nat->α){d e:Nat}(h:e≠d)(x:α):upd f d x e=f e:=if_neg h
theorem Sim.cells (S:Sim base w0 lm0 N g a w s){w':World}{d:Nat}{o o':Ob}{lm':Nat->Nat}(hd:get s.h d=some o)(hsh:Shp o o')(hlv:o.live=true)(hids:∀ x,Ids d o' x->Ids d o x)(hx:Ext w g.lm w' lm')(hb:Below base w w')
 (hgr:∀ e k l,o'= .gr e k l->∀ xs,w'.ownsRow base e k (g.v d) l.length xs->QRepL w' ⟨lm',g.v⟩ (get (AM.put s.h d o')) l.flatten xs)
 (hbl:∀ b,(∀ x,Ids d o x->blk (g.v x)≠some b)->b<w.heap.size->w'.heap[b]?=w.heap[b]?/\lm' b=g.lm b) (hnew:ORep w' ⟨lm',g.v⟩ base d o'):Sim base w0 lm0 N ⟨lm',g.v⟩ a w' ⟨s.t,AM.put s.h d o'⟩:=by
 have hlv':o'.live=true:=by cases o<;> cases o'<;> simp_all [Shp,Ob.live]
 refine S.turn (w':=w') (g':= ⟨lm',g.v⟩) (h':=AM.put s.h d o') ⟨hx,fun d1 o1 h1=> .inr ⟨rfl,?_⟩⟩ hb (fun b h=> ?_) (fun d1 o1 h1=> ?_) (fun d1 o1 h1=> ?_) ?_ (fun d1 e1 k1 l1 h1=> ?_) (fun b _ hbz hF=> ⟨hbl b (fun x hx=>hF d o x hd hlv hx) hbz,fun d1 o1 x h1 l1 hi=> ?_⟩)
 · by_cases e:d=d1
   · subst e
     rw[hd]at h1
     obtain rfl:=oIj h1
     exact⟨o',Tac _ _ _,hsh⟩
   · exact⟨o1,by rw[Tae _ e]; exact h1,Shp.refl _⟩
 · refine(hbl b (fun x hx e=> ?_) (Nat.lt_of_lt_of_le h S.bw)).2
   have:= ((S.ob d o hd).blockI hlv hx e).1
   omega
 · by_cases e:d=d1
   · subst e
     rw[Tac]at h1
     obtain rfl:=oIj h1
     exact hnew
   · rw[Tae _ e]at h1
     refine(S.ob d1 o1 h1).keep (fun _ _=>rfl) hx fun hl x hi b hbk=> ?_
     exact hbl b (fun y hy=>S.far h1 hd hl hlv hi hy (S.ne h1 hd (Ne.symm e) hi hy) hbk) ((S.ob d1 o1 h1).blockI hl hi hbk).2
 · by_cases e:d=d1
   · subst e; exact S.lt _ _ hd
   · rw[Tae _ e]at h1; exact S.lt _ _ h1
 · obtain⟨own,hap⟩:=S.ap
   refine⟨own,fun d1 o1 x b h1 l1 hi hbk=> ?_⟩
   by_cases e:d=d1
   · subst e
     rw[Tac]at h1
     obtain rfl:=oIj h1
     exact hap d o x b hd hlv (hids x hi) hbk
   · rw[Tae _ e]at h1
     exact hap d1 o1 x b h1 l1 hi hbk
 · by_cases e:d=d1
   · subst e
     rw[Tac]at h1
     exact .inr fun xs hw=>hgr _ _ _ (oIj h1) xs hw
   · rw[Tae _ e]at h1
     refine .inl ⟨h1,rfl,fun b hbk=> ?_⟩
     exact(hbl b (fun y hy=>S.far h1 hd rfl hlv (.self _ _) hy (S.ne h1 hd (Ne.symm e) (.self _ _) hy) hbk) ((S.ob d1 _ h1).block rfl hbk).2).1
 · by_cases e:d=d1
   · subst e
     rw[Tac]at h1
     obtain rfl:=oIj h1
     exact hF d o x hd hlv (hids x hi)
   · rw[Tae _ e]at h1
     exact hF d1 o1 x h1 l1 hi
theorem Sim.cells1 (S:Sim base w0 lm0 N g a w s){w':World}{d:Nat}{o o':Ob}{lm':Nat->Nat}(hd:get s.h d=some o)(hsh:Shp o o')(hlv:o.live=true)(hp:o.isDp=false)(hp':o'.isDp=false)(hx:Ext w g.lm w' lm')(hb:Below base w w')
 (hbl:∀ b,blk (g.v d)≠some b->b<w.heap.size->w'.heap[b]?=w.heap[b]?/\lm' b=g.lm b) (hnew:ORep w' ⟨lm',g.v⟩ base d o') (hng:o'.isGr=false:=by rfl):Sim base w0 lm0 N ⟨lm',g.v⟩ a w' ⟨s.t,AM.put s.h d o'⟩ :=
 S.cells hd hsh hlv (fun x h=>by rw[h.plain hp']; exact .self _ _) hx hb (fun e k l h=>by rw[h]at hng; simp[Ob.isGr]at hng) (fun b h=>hbl b (h d (.self _ _))) hnew
end
end Go.Proofs.YtjpibniecllafaaGreat.AM
end
section
namespace Go.Proofs.YtjpibniecllafaaGreat.AM
open Go Go.RowKit
theorem Ext.of_below {w w':World}{lm lm':Nat->Nat}(h:Below w.heap.size w w')(hl:∀ b,b<w.heap.size->lm' b=lm b):Ext w lm w' lm':=by
 exact Ext.blocks fun b hb _=> ⟨h.block b hb,hl b hb⟩
section
variable {base:Nat}{w0:World}{lm0:L0}{N:Nat}{g:Gs}{a:Act}{w:World}{s:St}
theorem Sim.newG (S:Sim base w0 lm0 N g a w s){id:Nat}(hid:get s.h id=none)(hid2:id<1000000){w':World}{lm':Nat->Nat}{v':Nat->Value}{o:Ob}(hb:Below w.heap.size w w')(hl:∀ b,b<w.heap.size->lm' b=g.lm b)
 (hvs:∀ x,x % 1000000≠id->v' x=g.v x) (hv:∀ x b,Ids id o x->blk (v' x)=some b->w.heap.size<=b) (hown:∃ own:Nat->Nat,∀ x b,Ids id o x->blk (v' x)=some b->own b=x) (ho:ORep w' ⟨lm',v'⟩ base id o) (hgr:∀ e k l,o= .gr e k l->∀ xs,w'.ownsRow base e k (v' id) l.length xs->QRepL w' ⟨lm',v'⟩ (get (AM.put s.h id o)) l.flatten xs:=by intro _ _ _ h; cases h) :
 Sim base w0 lm0 N ⟨lm',v'⟩ a w' ⟨s.t,AM.put s.h id o⟩/\Tr w g (get s.h) w' ⟨lm',v'⟩ (get (AM.put s.h id o)):=by
 have hx:=Ext.of_below hb hl
 have hne:∀ d o1,get s.h d=some o1->d≠id:=fun d o1 h1 e=>by rw[e,hid]at h1; simp at h1
 have hni:∀ d o1 x,get s.h d=some o1->Ids d o1 x->x % 1000000≠id:=fun d o1 x h1 hi e=>hne d o1 h1 ((hi.mod (S.lt _ _ h1)).symm.trans e)
 have T:Tr w g (get s.h) w' ⟨lm',v'⟩ (get (AM.put s.h id o)):= ⟨hx,fun d o1 h1=> .inr ⟨hvs _ (hni d o1 d h1 (.self _ _)),o1,by rw[Tae _ (Ne.symm (hne d o1 h1))]; exact h1,Shp.refl _⟩⟩
 refine⟨S.turn T (hb.mono S.bw) (fun b h=>hl b (Nat.lt_of_lt_of_le h S.bw)) (fun d o1 h1=> ?_) (fun d o1 h1=> ?_) ?_ (fun d e1 k1 l1 h1=> ?_) (fun b _ hbz hF=> ⟨⟨hb.block b hbz,hl b hbz⟩,fun d o1 x h1 l1 hi hbk=> ?_⟩),T⟩
 · by_cases e:id=d
   · subst e
     rw[Tac]at h1
     obtain rfl:=oIj h1
     exact ho
   · rw[Tae _ e]at h1
     refine(S.ob d o1 h1).keep (fun x hi=>hvs _ (hni d o1 x h1 hi)) hx fun hlv x hi b hbk=> ?_
     have:= ((S.ob d o1 h1).blockI hlv hi hbk).2
     exact⟨hb.block b this,hl b this⟩
 · by_cases e:id=d
   · subst e; exact hid2
   · rw[Tae _ e]at h1; exact S.lt _ _ h1
 · obtain⟨own,hap⟩:=S.ap
   obtain⟨own',hap'⟩:=hown
   refine⟨fun b=>if w.heap.size<=b then own' b else own b,fun d o1 x b h1 l1 hi hb1=> ?_⟩
   dsimp only
   by_cases e:id=d
   · subst e
     rw[Tac]at h1
     obtain rfl:=oIj h1
     rw[if_pos (hv x b hi hb1)]
     exact hap' x b hi hb1
   · rw[Tae _ e]at h1
     dsimp only at hb1
     rw[hvs _ (hni d o1 x h1 hi)]at hb1
     have:= ((S.ob d o1 h1).blockI l1 hi hb1).2
     rw[if_neg (by omega)]
     exact hap d o1 x b h1 l1 hi hb1
 · by_cases e:id=d
   · subst e
     rw[Tac]at h1
     exact .inr fun xs hw=>hgr _ _ _ (oIj h1) xs hw
   · rw[Tae _ e]at h1
     exact .inl ⟨h1,hvs _ (hni d _ d h1 (.self _ _)),fun b hbk=>hb.block b ((S.ob d _ h1).block rfl hbk).2⟩
 · by_cases e:id=d
   · subst e
     rw[Tac]at h1
     obtain rfl:=oIj h1
     have:=hv x b hi hbk
     omega
   · rw[Tae _ e]at h1
     dsimp only at hbk
     rw[hvs _ (hni d o1 x h1 hi)]at hbk
     exact hF d o1 x h1 l1 hi hbk
theorem Sim.new (S:Sim base w0 lm0 N g a w s){id:Nat}(hid:get s.h id=none)(hid2:id<1000000){w':World}{lm':Nat->Nat}{v0:Value}{o:Ob}(hb:Below w.heap.size w w')(hl:∀ b,b<w.heap.size->lm' b=g.lm b)
 (hop:o.isDp=false) (hv:∀ b,blk v0=some b->w.heap.size<=b) (ho:ORep w' ⟨lm',upd g.v id v0⟩ base id o) (hgr:∀ e k l,o= .gr e k l->∀ xs,w'.ownsRow base e k (upd g.v id v0 id) l.length xs->QRepL w' ⟨lm',upd g.v id v0⟩ (get (AM.put s.h id o)) l.flatten xs:=by intro _ _ _ h; cases h) :
 Sim base w0 lm0 N ⟨lm',upd g.v id v0⟩ a w' ⟨s.t,AM.put s.h id o⟩/\Tr w g (get s.h) w' ⟨lm',upd g.v id v0⟩ (get (AM.put s.h id o)) :=
 S.newG hid hid2 hb hl (fun x hx=>Tbc _ (fun e=>hx (by rw[e]; omega)) _) (fun x b hi hb1=>by obtain rfl:=hi.plain hop; simp only[Tai]at hb1; exact hv b hb1) ⟨fun _=>id,fun x b hi _=> (hi.plain hop).symm⟩ ho hgr
def Fz:Option Ob->Option Ob->Prop
 | some (.row e k _ l),some (.row e' k' _ l')=>e=e'/\k=k'/\l=l'
 | a,b=>a=b
theorem Fz.refl:∀ o,Fz o o
 | some (.row ..)=> ⟨rfl,rfl,rfl⟩
 | some (.it ..)=>rfl
 | some (.dp ..)=>rfl
 | some .dead=>rfl
 | some (.gr ..)=>rfl
 | some (.mpo ..)=>rfl
 | some (.pin ..)=>rfl
 | none=>rfl
theorem Fz.row {o e k fz l}(h:Fz (some (.row e k fz l)) o):∃ fz',o=some (.row e k fz' l):=by
 cases o with
 | none=>simp[Fz]at h
 | some o=>cases o<;> simp[Fz]at h; obtain⟨rfl,rfl,rfl⟩:=h; exact⟨_,rfl⟩
theorem Fz.none_iff {o o'}(h:Fz o o'):o=none↔o'=none:=by
 cases o with
 | none=>cases o' with
  | none=>simp
  | some x=>simp[Fz]at h
 | some x=>cases o' with
  | none=>cases x<;> simp[Fz]at h
  | some y=>simp
theorem Fz.set {o e k fz l}(h:Fz o (some (.row e k fz l))):Fz o (some (.row e k true l)):=by
 cases o with
 | none=>simp[Fz]at h
 | some o=>cases o<;> simp_all [Fz]
theorem Tmw {w:World}{lm:Nat->Nat}{base e k n:Nat}{v:Value}{xs:List Value}(h:w.ownsRow base e k v n xs)(h1:∀ u∈xs,u.oneCell'=true){b:Nat}(hb:blk v=some b)(hl:n*k<=lm b)(i:Nat) :
 Mem w lm b i (xs.drop i):=by
 intro j u hu
 rw[List.getElem?_drop]at hu
 have hlt:i+j<xs.length:= (List.getElem?_eq_some_iff.1 hu).1
 refine⟨?_,by have:=h.1; omega,h1 u (List.mem_of_getElem? hu)⟩
 rcases h.2 with⟨rfl,_⟩ | ⟨b',cap,cur,rfl,_,hg,_,_,_,ht⟩
 · simp[blk]at hb
 · simp[blk]at hb
   subst hb
   rw[cell_of_row w b' (i+j) cur e (0,0) hg]
   rw[← ht,List.getElem?_take]at hu
   split at hu
   · simpa using hu
   · simp at hu
theorem Mem.take {w lm b o vs}(h:Mem w lm b o vs)(n:Nat):Mem w lm b o (vs.take n):=fun j u hu=>by
 rw[List.getElem?_take]at hu
 split at hu
 · exact h j u hu
 · simp at hu
theorem Mem.drop {w lm b o vs}(h:Mem w lm b o vs)(n:Nat):Mem w lm b (o+n) (vs.drop n):=fun j u hu=>by
 rw[List.getElem?_drop]at hu
 have:=h _ u hu
 rw[Nat.add_assoc]
 exact this
theorem Sim.freeze (S:Sim base w0 lm0 N g a w s){d e k:Nat}{fz:Bool}{l:List (List PV)}(hd:get s.h d=some (.row e k fz l)) :
 ∃ lm',Sim base w0 lm0 N ⟨lm',g.v⟩ a w ⟨s.t,AM.put s.h d (.row e k true l)⟩/\Tr w g (get s.h) w ⟨lm',g.v⟩ (get (AM.put s.h d (.row e k true l)))/\∀ b,blk (g.v d)=some b->lm' b=l.length*k:=by
 obtain⟨h1,h2,⟨xs,h3,h4,h5⟩,h6⟩:=S.ob d _ hd
 let lm':Nat->Nat:=fun b=>if blk (g.v d)=some b then l.length*k else g.lm b
 have hlm:∀ b,blk (g.v d)=some b->lm' b=l.length*k:=fun b hb=>if_pos hb
 have hx:Ext w g.lm w lm':=by
  refine Ext.blocks fun b _ h0=> ⟨rfl,?_⟩
  by_cases e:blk (g.v d)=some b
  · rw[hlm b e]
    have h7:=h6 b e
    rw[h7]at h0 ⊢
    split at h0
    · rename_i hz; rw[if_pos hz]
    · omega
  · show(if _ then _ else _)=_
    rw[if_neg e]
 refine⟨lm',S.cells1 hd ⟨rfl,rfl⟩ rfl rfl rfl hx (Below.refl _ _) (fun b hb _=> ⟨rfl,if_neg hb⟩) ⟨h1,h2,⟨xs,h3,h4.ext hx,h5⟩,fun b hb=>by show lm' b=_; rw[hlm b hb]; simp⟩,⟨hx,fun d1 o1 hd1=> .inr ⟨rfl,?_⟩⟩,hlm⟩
 by_cases e:d=d1
 · subst e
   rw[hd]at hd1
   obtain rfl:=oIj hd1
   exact⟨_,Tac _ _ _,rfl,rfl⟩
 · exact⟨o1,by rw[Tae _ e]; exact hd1,Shp.refl _⟩
theorem Te2 {α:Type}(l:List α){off len:Nat}(h:off+len<=l.length): ((l.drop off).take len).length=len:=by simp; omega
theorem Sim.part (S:Sim base w0 lm0 N g a w s){d e k:Nat}{l:List (List PV)}(hd:get s.h d=some (.row e k true l)){off len:Nat}{u:Value}(hr:SRep w g (get s.h) (.ms d off len) u):Rep w g.lm (.sl k ((l.drop off).take len)) u:=by
 obtain⟨h1,h2,⟨xs,h3,h4,h5⟩,h6⟩:=S.ob d _ hd
 simp only[SRep,hd]at hr
 obtain⟨hle,hr⟩:=hr
 have hmem:∀ c∈ (l.drop off).take len,c.length=k:=fun c hc=>h2 c (List.mem_of_mem_drop (List.mem_of_mem_take hc))
 have hfl: ((l.drop off).take len).flatten= (l.flatten.drop (off*k)).take (len*k):=by
  rw[Tat off h2,Tbz len (fun c hc=>h2 c (List.mem_of_mem_drop hc))]
 have hll:=Te2 l hle
 have key:∀ b cap,blk (g.v d)=some b->len<=cap->Rep w g.lm (.sl k ((l.drop off).take len)) (.slice (some ⟨b,off*k,none⟩) len cap):=by
  intro b cap hb hcap
  have hm:= (Tmw h3 h5 hb (lm:=g.lm) (by rw[h6 b hb]; simp) (off*k)).take (len*k)
  have hrl:= (h4.drop (off*k)).take (len*k)
  rw[← hfl]at hrl
  have:=Rep.sl (w:=w) (lm:=g.lm) (cap:=cap) h1 hmem hrl hm (by rw[hll]; exact hcap)
  rwa[hll]at this
 rcases hr with⟨rfl,rfl,rfl⟩ | ⟨_,ad,cap,rfl,hcap,hz⟩
 · rcases h3.2 with⟨hv,h0⟩ | ⟨b,cap,cur,hv,_,_,hcap,_⟩
   · rw[hv]
     have:l= []:=List.eq_nil_of_length_eq_zero h0
     subst this
     exact .sl0
   · have:=key b cap (by rw[hv]; rfl) hcap
     rw[hv]
     simpa using this
 · by_cases h0:len=0
   · subst h0
     rw[List.take_zero]
     exact .sl0
   · rcases hz with hz | ⟨b,hb,rfl⟩
     · exact absurd hz h0
     · exact key b cap hb hcap
theorem Tc0 (S:Sim base w0 lm0 N g a w s) {h0:List (Nat×Ob)} (hf:∀ d,Fz (get h0 d) (get s.h d)) {v:SV} {u:Value} (hr:SRep w g (get s.h) v u) {x:PV} {fr:List (Nat×Ob)} (he:frz h0 v=some (x,fr)) :
 ∃ lm',Sim base w0 lm0 N ⟨lm',g.v⟩ a w ⟨s.t,putAll s.h fr⟩/\Rep w lm' x u/\Tr w g (get s.h) w ⟨lm',g.v⟩ (get (putAll s.h fr))/\∀ d,Fz (get h0 d) (get (putAll s.h fr) d):=by
 have keep:Sim base w0 lm0 N ⟨g.lm,g.v⟩ a w ⟨s.t,putAll s.h []⟩:=S
 have tr0:Tr w g (get s.h) w ⟨g.lm,g.v⟩ (get (putAll s.h [])):= ⟨Ext.refl _ _,fun d o h=> .inr ⟨rfl,o,h,Shp.refl _⟩⟩
 cases v with
 | p y =>
  simp only[frz,oIE,Prod.mk.injEq]at he
  obtain⟨rfl,rfl⟩:=he
  exact⟨g.lm,keep,hr,tr0,hf⟩
 | xs k l =>
  simp only[frz,oIE,Prod.mk.injEq]at he
  obtain⟨rfl,rfl⟩:=he
  obtain⟨ad,rfl,h2,h3,h4⟩:=hr
  refine⟨g.lm,keep,?_,tr0,hf⟩
  rcases h4 with rfl | ⟨b,o,vs,rfl,h5,h6⟩
  · exact .sl0
  · exact .sl h2 h3 h5 h6 (Nat.le_refl _)
 | ms d off len =>
  simp only[frz]at he
  cases hd:get h0 d with
  | none=>rw[hd]at he; simp at he
  | some o =>
   cases o<;> rw[hd]at he<;> first | (simp at he; done) | skip
   rename_i e k fz l
   obtain⟨fz',hs⟩:=Fz.row (hd▸hf d)
   dsimp only at he
   split at he
   · rename_i hle
     simp only[oIE,Prod.mk.injEq]at he
     obtain⟨rfl,rfl⟩:=he
     obtain⟨lm',S',T',_⟩:=S.freeze hs
     refine⟨lm',S',S'.part (Tac _ _ _) (hr.tr T'),T',fun d1=> ?_⟩
     simp only[putAll]
     rw[Tbf]
     split
     · rename_i h1; subst h1
       have:=hf d; rw[hs]at this; exact this.set
     · exact hf d1
   · simp at he
 | mp d i j =>
  simp only[frz]at he
  cases hd:get h0 d with
  | none=>rw[hd]at he; simp at he
  | some o =>
   cases o<;> rw[hd]at he<;> first | (simp at he; done) | skip
   rename_i e k fz l
   obtain⟨fz',hs⟩:=Fz.row (hd▸hf d)
   dsimp only at he
   cases hi:l[i]? with
   | none=>rw[hi]at he; simp at he
   | some c =>
    rw[hi]at he
    dsimp only at he
    split at he
    · rename_i hjk
      simp only[oIE,Prod.mk.injEq]at he
      obtain⟨rfl,rfl⟩:=he
      obtain⟨lm',S',T',hlm⟩:=S.freeze hs
      refine⟨lm',S',?_,T',fun d1=> ?_⟩
      · have hr':=hr.tr T'
        simp only[SRep,Tac]at hr'
        obtain⟨b,hb,rfl⟩:=hr'
        obtain⟨h1,h2,⟨xs,h3,h4,h5⟩,h6⟩:=S'.ob d _ (Tac _ _ _)
        have hil:i<l.length:= (List.getElem?_eq_some_iff.1 hi).1
        have hck:c.length=k:=h2 c (List.mem_of_getElem? hi)
        have hm:= (Tmw h3 h5 hb (lm:=lm') (by rw[hlm b hb]; exact Nat.le_refl _) (i*k+j)).take (k-j)
        have hrl:= (h4.drop (i*k+j)).take (k-j)
        have e1: (l.flatten.drop (i*k+j)).take (k-j)=c.drop j:=by
         rw[← List.drop_drop,Tat i h2]
         have:l.drop i=c::l.drop (i+1):=by
          rw[List.drop_eq_getElem_cons hil]
          congr 1
          simpa[List.getElem?_eq_getElem hil]using hi
         rw[this,List.flatten_cons,List.drop_append_of_le_length (by omega),List.take_append_of_le_length (by simp; omega),List.take_of_length_le (by simp; omega)]
        rw[e1]at hrl
        exact .pt hrl hm
      · simp only[putAll]
        rw[Tbf]
        split
        · rename_i h1; subst h1
          have:=hf d; rw[hs]at this; exact this.set
        · exact hf d1
    · simp at he
 | mo d=>simp[frz]at he
 | sst l=>simp[frz]at he
 | stu l=>simp[frz]at he
 | fnv f l=>simp[frz]at he
inductive SRepL (w:World) (g:Gs) (h:Nat->Option Ob):List SV->List Value->Prop
 | nil:SRepL w g h [] []
 | cons {v u vs us}:SRep w g h v u->SRepL w g h vs us->SRepL w g h (v::vs) (u::us)
theorem SRepL.tr {w g h w' g' h'}(T:Tr w g h w' g' h'):∀ {vs us},SRepL w g h vs us->SRepL w' g' h' vs us
 | _,_,.nil=> .nil
 | _,_,.cons a b=> .cons (a.tr T) (SRepL.tr T b)
theorem Tr.trans {w g h w' g' h' w'' g'' h''}(T:Tr w g h w' g' h')(U:Tr w' g' h' w'' g'' h''):Tr w g h w'' g'' h'':=by
 refine⟨T.ext.trans U.ext,fun d o hd=> ?_⟩
 rcases T.hp d o hd with⟨h0,h1⟩ | ⟨h1,o',h2,h3⟩
 · rcases U.hp d _ h1 with⟨h4,_⟩ | ⟨h4,o'',h5,h6⟩
   · simp[Ob.live]at h4
   · cases o''<;> simp only[Shp]at h6
     exact .inl ⟨h0,h5⟩
 · rcases U.hp d o' h2 with⟨h4,h4'⟩ | ⟨h4,o'',h5,h6⟩
   · refine .inl ⟨?_,h4'⟩
     cases o<;> cases o'<;> simp only[Shp]at h3<;> first | rfl | (simp[Ob.live]at h4)
   · refine .inr ⟨h4.trans h1,o'',h5,?_⟩
     cases o<;> cases o'<;> cases o''<;> simp_all [Shp]
theorem Tcb:∀ {vs:List SV} {us:List Value} {g:Gs} {s:St} {xs:List PV} {fr:List (Nat×Ob)} {h0:List (Nat×Ob)} (S:Sim base w0 lm0 N g a w s) (hf:∀ d,Fz (get h0 d) (get s.h d)) (hr:SRepL w g (get s.h) vs us) (he:frzs h0 vs=some (xs,fr)),
 ∃ lm',Sim base w0 lm0 N ⟨lm',g.v⟩ a w ⟨s.t,putAll s.h fr⟩/\RepL w lm' xs us/\Tr w g (get s.h) w ⟨lm',g.v⟩ (get (putAll s.h fr))/\∀ d,Fz (get h0 d) (get (putAll s.h fr) d)
 | [],_,g,s,xs,fr,h0,S,hf,.nil,he=>by
  simp only[frzs,oIE,Prod.mk.injEq]at he
  obtain⟨rfl,rfl⟩:=he
  exact⟨g.lm,S,.nil,⟨Ext.refl _ _,fun d o h=> .inr ⟨rfl,o,h,Shp.refl _⟩⟩,hf⟩
 | v::vs,_,g,s,xs,fr,h0,S,hf,.cons (us:=us') hv hvs,he=>by
  simp only[frzs]at he
  cases h1:frz h0 v with
  | none=>rw[h1]at he; simp at he
  | some q =>
   obtain⟨x,f1⟩:=q
   rw[h1]at he
   dsimp only at he
   cases h2:frzs h0 vs with
   | none=>rw[h2]at he; simp at he
   | some q =>
    obtain⟨ys,f2⟩:=q
    rw[h2]at he
    simp only[oIE,Prod.mk.injEq]at he
    obtain⟨rfl,rfl⟩:=he
    obtain⟨lm1,S1,r1,T1,F1⟩:=Tc0 S hf hv h1
    obtain⟨lm2,S2,r2,T2,F2⟩:=Tcb S1 F1 (hvs.tr T1) h2
    rw[Tak]
    exact⟨lm2,S2,.cons (r1.ext T2.ext) r2,T1.trans T2,F2⟩
end
theorem RepL.mk {w:World}{lm:Nat->Nat}:∀ {l:List PV} {vs:List Value},l.length=vs.length-> (∀(i:Nat) (x:PV) (v:Value),l[i]?=some x->vs[i]?=some v->Rep w lm x v)->RepL w lm l vs
 | [],[],_,_=> .nil
 | [],_::_,h,_=>by simp at h
 | _::_,[],h,_=>by simp at h
 | x::l,v::vs,h,hr=> .cons (hr 0 x v rfl rfl) (RepL.mk (by simpa using h) fun i y u hy hu=>hr (i+1) y u (by simpa using hy) (by simpa using hu))
theorem RowR.plain {w:World}{g:Gs}{base x e k:Nat}{l:List (List PV)}(h:RowR w g base x e k l){lm2:Nat->Nat}(hx:Ext w g.lm w lm2)(hb:∀ b,blk (g.v x)=some b->l.length*k<=lm2 b):Rep w lm2 (.sl k l) (g.v x):=by
 obtain⟨h0,hk,⟨xs,h3,h4,h5⟩,h6⟩:=h
 have hl:=Tap hk
 have hxl:=h4.length
 rcases h3.2 with⟨hv,hn⟩ | ⟨b,cap,cur,hv,_,_,hcap,_⟩
 · have:l= []:=List.eq_nil_of_length_eq_zero hn
   subst this
   rw[hv]
   exact .sl0
 · cases l with
   | nil=>rw[hv]; exact .sl0
   | cons c l =>
    have hbb:=hb b (by rw[hv]; rfl)
    have hm:=Tmw h3 h5 (b:=b) (by rw[hv]; rfl) hbb 0
    rw[hv]
    exact .sl h0 hk (h4.ext hx) (by simpa using hm) hcap
theorem Tgd (l:List (List PV)): (setL l).flatten=l.flatten.map PV.set:=by
 simp[setL,List.map_flatten]
theorem Tis {l:List (List PV)}(h:okSet l=true){p:Nat}{x:PV}(hp:l.flatten[p]?=some x):x.noHole=true:=by
 obtain⟨c,hc,hx⟩:=List.mem_flatten.1 (List.mem_of_getElem? hp)
 exact List.all_eq_true.1 (List.all_eq_true.1 h c hc) x hx
theorem Tsl {l:List (List PV)}{k:Nat}(h:∀ c∈l,c.length=k):∀ c∈setL l,c.length=k:=by
 intro c hc
 obtain⟨c',hc',rfl⟩:=List.mem_map.1 hc
 simpa using h c' hc'
open Classical in
theorem Tla {w:World}{g:Gs}{base d e k:Nat}{l:List (List PV)}(h:ORep w g base d (.dp e k l))(hok:okSet l=true)(hd:d<1000000)(hown:∃ own:Nat->Nat,∀ x b,Ids d (.dp e k l) x->blk (g.v x)=some b->own b=x) :
 ∃ lm2:Nat->Nat,Ext w g.lm w lm2/\ (∀ b,(∀ x,Ids d (.dp e k l) x->blk (g.v x)≠some b)->lm2 b=g.lm b)/\ORep w ⟨lm2,g.v⟩ base d (.row e k false (setL l)):=by
 obtain⟨h1,h2,⟨xs,h3,h4,h5,h7⟩,h6,h8⟩:=h
 obtain⟨own,hown⟩:=hown
 let T (b n:Nat):Prop:=∃ p e' k' l',l.flatten[p]?=some (.ow e' k' l')/\0<k'/\blk (g.v (nid d p))=some b/\n=l'.length*k'
 have hids:∀ {p e' k' l'},l.flatten[p]?=some (.ow e' k' l')->0<k'->Ids d (.dp e k l) (nid d p):=fun hp hk=> .dp hp hk
 have uniq:∀ {b n m},T b n->T b m->n=m:=by
  rintro b n m ⟨p,e1,k1,l1,p1,p2,p3,rfl⟩ ⟨q,e2,k2,l2,q1,q2,q3,rfl⟩
  have:= (hown _ b (hids p1 p2) p3).symm.trans (hown _ b (hids q1 q2) q3)
  obtain⟨_,rfl⟩:=Tjx hd hd this
  rw[p1]at q1
  simp only[oIE,PV.ow.injEq]at q1
  obtain⟨_,rfl,rfl⟩:=q1
  rfl
 let lm2:Nat->Nat:=fun b=>if h:∃ n,T b n then Classical.choose h else g.lm b
 have hT:∀ {b n},T b n->lm2 b=n:=fun {b n} ht=>by
  have hex:∃ n,T b n:= ⟨n,ht⟩
  show(if h:∃ n,T b n then Classical.choose h else g.lm b)=n
  rw[dif_pos hex]
  exact uniq (Classical.choose_spec hex) ht
 have hnT:∀ {b},(∀ n,¬ T b n)->lm2 b=g.lm b:=fun hn=>dif_neg fun⟨n,ht⟩=>hn n ht
 have hx:Ext w g.lm w lm2:=by
  refine Ext.blocks fun b _ ho=> ⟨rfl,?_⟩
  by_cases hex:∃ n,T b n
  · obtain⟨n,p,e',k',l',p1,p2,p3,_⟩:=hex
    obtain⟨_,_,_,_,q7⟩:=h7 p e' k' l' p1 p2
    rw[q7 b p3]at ho
    omega
  · rw[hnT fun n ht=>hex ⟨n,ht⟩]
 refine⟨lm2,hx,fun b hb=>hnT ?_,h1,Tsl h2,⟨xs,by simpa[setL]using h3,?_,h5⟩,fun b hb=> ?_⟩
 · rintro n ⟨p,e',k',l',p1,p2,p3,_⟩
   exact hb _ (hids p1 p2) p3
 · refine RepL.mk (by rw[Tgd,List.length_map]; exact h4.length) fun i x v hx' hv=> ?_
   rw[Tgd,List.getElem?_map]at hx'
   cases hp:l.flatten[i]? with
   | none=>rw[hp]at hx'; simp at hx'
   | some y =>
    rw[hp]at hx'
    simp only[Option.map_some,oIE]at hx'
    subst hx'
    obtain⟨v',hv',hr⟩:=h4.get i y hp
    rw[hv]at hv'
    obtain rfl:=oIj hv'
    have hnh:=Tis hok hp
    cases y with
    | ow e' k' l' =>
     have hk':0<k':=by
      cases k' with
      | zero=>simp[PV.noHole]at hnh
      | succ n=>omega
     obtain⟨q1,q2⟩:=h7 i e' k' l' hp hk'
     rw[hv]at q1
     obtain rfl:=oIj q1
     exact q2.plain hx fun b hb=>Nat.le_of_eq (hT ⟨i,e',k',l',hp,hk',hb,rfl⟩).symm
    | _=>exact hr.ext hx
 · have:∀ n,¬ T b n:=by
    rintro n ⟨p,e',k',l',p1,p2,p3,_⟩
    have e1:= (hown d b (.self _ _) hb).symm.trans (hown _ b (hids p1 p2) p3)
    have:=Tc4 d p
    omega
   show lm2 b=_
   rw[hnT this,h6 b hb]
   simp
theorem Tjy {w:World}{lm:Nat->Nat}{v v':Nat->Value}{base base' d d' e k:Nat}{l:List (List PV)}(h:ORep w ⟨lm,v⟩ base d (.dp e k l))(hb:base'<=base)(h0:v' d'=v d)(hp:∀ p,v' (nid d' p)=v (nid d p)):ORep w ⟨lm,v'⟩ base' d' (.dp e k l):=by
 have lower:∀ {u e k n xs},w.ownsRow base e k u n xs->w.ownsRow base' e k u n xs:=by
  intro u e k n xs h
  refine⟨h.1,?_⟩
  rcases h.2 with h | ⟨b,cap,cur,h1,h2,h3⟩
  · exact .inl h
  · exact .inr ⟨b,cap,cur,h1,Nat.le_trans hb h2,h3⟩
 obtain⟨h1,h2,⟨xs,h3,h4,h5,h7⟩,h6,h8⟩:=h
 refine⟨h1,h2,⟨xs,?_,h4,h5,fun p e' k' l' hq hk=> ?_⟩,fun b hbk=> ?_,fun p hq=>by obtain⟨b,q1,q2⟩:=h8 p hq; exact⟨b,by dsimp only at q1 ⊢; rw[h0]; exact q1,q2⟩⟩
 · dsimp only at h3 ⊢; rw[h0]; exact lower h3
 · obtain⟨q1,q2,q3,⟨ys,q4,q5,q6⟩,q7⟩:=h7 p e' k' l' hq hk
   dsimp only at q1 q4 q7
   refine⟨by dsimp only; rw[hp]; exact q1,q2,q3,⟨ys,by dsimp only; rw[hp]; exact lower q4,q5,q6⟩,fun b hbk=> ?_⟩
   dsimp only at hbk
   rw[hp]at hbk
   exact q7 b hbk
 · dsimp only at hbk h6 ⊢; rw[h0]at hbk; exact h6 b hbk
end Go.Proofs.YtjpibniecllafaaGreat.AM
end
section
namespace Go.Proofs.YtjpibniecllafaaGreat.AM
open Go Go.RowKit
def okC:Value->SV->Bool
 | .int k n,.p (.sc (.int k' n'))=>decide (k=k')&&decide (n=n')
 | .bool b,.p (.sc (.bool b'))=>b == b'
 | .string s,.p (.sc (.string s'))=>s.data.toList == s'.data.toList
 | .pointer none,.p (.sc (.pointer none))=>true
 | .nilFunc,.p (.sc .nilFunc)=>true
 | .slice none 0 0,.xs k []=>decide (0<k)
 | _,_=>false
def okX:Operand->X->Bool
 | .tmp n,.t m=>n == m
 | .func f,.f g=>f == g
 | .const v,.c s=>okC v s
 | _,_=>false
def okXs:List Operand->List X->Bool
 | [],[]=>true
 | x::xs,y::ys=>okX x y&&okXs xs ys
 | _,_=>false
def EffOK (P:Program)(base:Nat)(w0:World)(lm0:L0)(N:Nat)(g:Gs)(a:Act)(w:World)(s:St)(o:Oper)(e:Eff):Prop :=
 ∃ u w' g',((execOp a.eval o).run P w= .ok (.value u) w'∨ ((execOp a.eval o).run P w= .ok .skip w'/\u=undef)) /\
  Sim base w0 lm0 N g' a w' ⟨s.t,putAll s.h e.hs⟩/\SRep w' g' (get (putAll s.h e.hs)) e.v u
theorem add_n (b o n:Nat): (⟨b,o,none⟩:Addr).add n= ⟨b,o+n,none⟩:=by unfold Addr.add; split<;> simp_all
section
variable {P:Program}{base:Nat}{w0:World}{lm0:L0}{N:Nat}{g:Gs}{a:Act}{w:World}{s:St}{o:Oper}
theorem Tsm {u:Value}{v:SV}(h:okC u v=true):SRep w g (get s.h) v u:=by
 unfold okC at h
 split at h
 · simp at h; obtain⟨rfl,rfl⟩:=h; exact .sc _
 · simp at h; subst h; exact .sc _
 · rename_i s1 s2
   have:s1=s2:=by
    obtain⟨⟨x⟩⟩:=s1; obtain⟨⟨y⟩⟩:=s2
    simp at h; subst h; rfl
   subst this; exact .sc _
 · exact .sc _
 · exact .sc _
 · exact⟨none,rfl,by simpa using h,by simp,.inl rfl⟩
 · simp at h
theorem Tag (S:Sim base w0 lm0 N g a w s){x:Operand}{y:X}(h:okX x y=true){v:SV}(hv:y.ev s=some v):SRep w g (get s.h) v (a.eval x):=by
 cases x<;> cases y<;> simp only[okX]at h<;> first | (simp at h; done) | skip
 · simp at h
   subst h
   obtain⟨u,h1,h2⟩:=S.tm _ _ hv
   simp only[Act.eval]
   rw[Array.getD_eq_getD_getElem?,h1]
   exact h2
 · rename_i u v0
   have:v0=v:=by
    cases v0<;> simp only[X.ev]at hv<;> first | exact oIj hv | (simp at hv)
   subst this
   exact Tsm h
 · simp at h
   subst h
   obtain rfl:=oIj hv
   exact Rep.fn .nil
theorem Ta1 (S:Sim base w0 lm0 N g a w s):∀ {xs:List Operand} {ys:List X} {vs:List SV},okXs xs ys=true->evs s ys=some vs->SRepL w g (get s.h) vs (xs.map a.eval)
 | [],[],vs,h,hv=>by simp only[evs,oIE]at hv; subst hv; exact .nil
 | x::xs,y::ys,vs,h,hv=>by
  simp only[okXs,Bool.and_eq_true]at h
  simp only[evs]at hv
  cases h1:y.ev s with
  | none=>rw[h1]at hv; simp at hv
  | some v =>
   rw[h1]at hv; dsimp only at hv
   cases h2:evs s ys with
   | none=>rw[h2]at hv; simp at hv
   | some vs' =>
    rw[h2]at hv
    obtain rfl:=oIj hv
    exact .cons (Tag S h.1 h1) (Ta1 S h.2 h2)
 | [],_::_,_,h,_=>by simp[okXs]at h
 | _::_,[],_,h,_=>by simp[okXs]at h
theorem EffOK.pure (S:Sim base w0 lm0 N g a w s){u:Value}{v:SV}(hrun: (execOp a.eval o).run P w= .ok (.value u) w)(hr:SRep w g (get s.h) v u):EffOK P base w0 lm0 N g a w s o ⟨v,[]⟩ :=
 ⟨u,w,g,.inl hrun,S,hr⟩
theorem EffOK.frzs (S:Sim base w0 lm0 N g a w s){vs:List SV}{us:List Value}(hr:SRepL w g (get s.h) vs us){xs:List PV}{fr:List (Nat×Ob)}(he:frzs s.h vs=some (xs,fr)){u:Value}{x:PV}
 (hrun: (execOp a.eval o).run P w= .ok (.value u) w) (hx:∀ lm',RepL w lm' xs us->Rep w lm' x u):EffOK P base w0 lm0 N g a w s o ⟨.p x,fr⟩:=by
 obtain⟨lm',S',r',T',_⟩:=Tcb S (fun d=>Fz.refl _) hr he
 exact⟨u,w,⟨lm',g.v⟩,.inl hrun,S',hx lm' r'⟩
theorem EffOK.frz (S:Sim base w0 lm0 N g a w s){v:SV}{u0:Value}(hr:SRep w g (get s.h) v u0){y:PV}{fr:List (Nat×Ob)}(he:frz s.h v=some (y,fr)){u:Value}{x:PV}
 (hrun: (execOp a.eval o).run P w= .ok (.value u) w) (hx:∀ lm',Rep w lm' y u0->Rep w lm' x u):EffOK P base w0 lm0 N g a w s o ⟨.p x,fr⟩:=by
 obtain⟨lm',S',r',T',_⟩:=Tc0 S (fun d=>Fz.refl _) hr he
 exact⟨u,w,⟨lm',g.v⟩,.inl hrun,S',hx lm' r'⟩
theorem Ty6 (S:Sim base w0 lm0 N g a w s){x:Operand}{y:X}{v:SV}(ho:o.op= .move x∨o.op= .assign x)(hx:okX x y=true)(hv:y.ev s=some v):EffOK P base w0 lm0 N g a w s o ⟨v,[]⟩:=by
 refine EffOK.pure S (u:=a.eval x) ?_ (Tag S hx hv)
 rcases ho with ho | ho<;> simp[execOp,ho]
theorem Tgm {lm:Nat->Nat}{b:Bool}{u:Value}(h:Rep w lm (.sc (.bool b)) u):u= .bool b:=by cases h; rfl
theorem Tlb {lm:Nat->Nat}{l:List PV}{u:Value}(h:Rep w lm (.pt l) u):∃ b o vs,u= .pointer (some ⟨b,o,none⟩)/\RepL w lm l vs/\Mem w lm b o vs:=by cases h with | pt a m=>exact⟨_,_,_,rfl,a,m⟩
theorem Tit {lm:Nat->Nat}{l:List PV}{u:Value}(h:Rep w lm (.st l) u):∃ vs:List Value,u= .agg vs.toArray/\RepL w lm l vs/\∀ u∈vs,u.oneCell'=true:=by cases h with | st a o=>exact⟨_,rfl,a,o⟩
theorem T26 {lm:Nat->Nat}{l:List PV}{u:Value}(h:Rep w lm (.tu l) u):∃ vs:List Value,u= .tuple vs.toArray/\RepL w lm l vs:=by cases h with | tu a=>exact⟨_,rfl,a⟩
theorem Ty7 {lm:Nat->Nat}{f:FuncId}{l:List PV}{u:Value}(h:Rep w lm (.fn f l) u):∃ vs:List Value,u= .func (.func f) #[] vs.toArray/\RepL w lm l vs:=by cases h with | fn a=>exact⟨_,rfl,a⟩
theorem Tz2 {lm:Nat->Nat}{t:TypeId}{x:PV}{u:Value}(h:Rep w lm (.ifc t x) u):∃ v:Value,u= .iface t v/\Rep w lm x v:=by cases h with | ifc a=>exact⟨_,rfl,a⟩
theorem Tiu {lm:Nat->Nat}{k:Nat}{l:List (List PV)}{u:Value}(h:Rep w lm (.sl k l) u):∃ a cap,u= .slice a l.length cap/\l.length<=cap/\ (l= []∨ (0<k/\ (∀ c∈l,c.length=k)/\∃ b o vs,a=some ⟨b,o,none⟩/\RepL w lm l.flatten vs/\Mem w lm b o vs)):=by
 cases h with
 | sl h0 hk a m hc=>exact⟨_,_,rfl,hc,.inr ⟨h0,hk,_,_,_,rfl,a,m⟩⟩
 | sl0=>exact⟨_,_,rfl,Nat.zero_le _,.inl rfl⟩
theorem Ta6 {lm:Nat->Nat}{v:Value}{u:Value}(h:Rep w lm (.sc v) u):u=v:=by cases h; rfl
theorem Twn (S:Sim base w0 lm0 N g a w s){c x y:Operand}{c' x' y':X}{b:Bool}{v1 v2:SV}(ho:o.op= .pick c x y)(hc:okX c c'=true)(hx:okX x x'=true)(hy:okX y y'=true)
 (h1:c'.ev s=some (.p (.sc (.bool b)))) (h2:x'.ev s=some v1) (h3:y'.ev s=some v2):EffOK P base w0 lm0 N g a w s o ⟨if b then v1 else v2,[]⟩:=by
 have hb:=Tgm (Tag S hc h1)
 refine EffOK.pure S (u:=if b then a.eval x else a.eval y) ?_ ?_
 · simp[execOp,ho,hb,asBool]
 · cases b
   · exact Tag S hy h3
   · exact Tag S hx h2
def aggT (P:Program)(t:TypeId):Option Bool:=match P.underlying t with
 | some (.struct _)=>some true
 | some (.array _ _)=>some true
 | some _=>some false
 | none=>none
theorem Tc5 {t:TypeId}{b:Bool}(h:aggT P t=some b)(w:World): (isAgg t).run P w= .ok b w:=by
 unfold aggT at h
 cases hu:P.underlying t with
 | none=>rw[hu]at h; simp at h
 | some d =>
  rw[hu]at h
  simp only[isAgg,Sem.run_bind,run_underlying hu,Result.andThen_ok]
  cases d<;> simp at h<;> subst h<;> rfl
theorem Tao {t:TypeId}{k:Nat}(h:P.cellsOf t=k)(h0:0<k)(w:World): (sizeOf t).run P w= .ok k w:=by
 unfold Program.cellsOf at h
 cases hi:P.info? t with
 | none=>rw[hi]at h; simp at h; omega
 | some i =>
  rw[hi]at h
  simp at h
  simp[sizeOf,typeInfo,hi,h]
theorem Tc6 {t:TypeId}(h:aggT P t=some false){ad:Addr}{u:Value}(hc:w.cell? ad=some u): (Instr.loadAt t (.pointer (some ad))).run P w= .ok u w:=by
 simp[Instr.loadAt,Instr.sureAddr,loadVar,Tc5 h,hc]
theorem Te3 {t:TypeId}(h:aggT P t=some true){k:Nat}(hk:P.cellsOf t=k)(h0:0<k){b o:Nat}{vs:List Value}(hl:vs.length=k)(hc:∀ j u,vs[j]?=some u->w.cell? ⟨b,o+j,none⟩=some u) :
 (Instr.loadAt t (.pointer (some ⟨b,o,none⟩))).run P w= .ok (.agg vs.toArray) w:=by
 have:=run_loadCells_list (P:=P) w ⟨b,o,none⟩ vs (fun j v h=>by rw[add_n]; exact hc j v h)
 rw[hl]at this
 simp[Instr.loadAt,Instr.sureAddr,loadVar,Tc5 h,Tao hk h0,this]
theorem Tb4 {k:Nat}:∀ {l:List (List PV)} {i j:Nat} {c:PV},(∀ c∈l,c.length=k)->cellAt l i j=some c->l.flatten[i*k+j]?=some c
 | [],i,j,c,_,h=>by simp[cellAt]at h
 | x::l,0,j,c,hk,h=>by
  simp[cellAt]at h
  have hj:j<x.length:= (List.getElem?_eq_some_iff.1 h).1
  rw[List.flatten_cons,Nat.zero_mul,Nat.zero_add,List.getElem?_append_left hj]; exact h
 | x::l,i+1,j,c,hk,h=>by
  have hx:x.length=k:=hk x (by simp)
  have h':cellAt l i j=some c:=by simpa[cellAt]using h
  rw[List.flatten_cons,List.getElem?_append_right (by rw[hx,Nat.add_mul]; omega),show(i+1)*k+j-x.length=i*k+j by rw[hx,Nat.add_mul]; omega]
  exact Tb4 (fun c hc=>hk c (by simp[hc])) h'
theorem Ta5 {base e k n:Nat}{v:Value}{xs:List Value}(h:w.ownsRow base e k v n xs){b:Nat}(hb:blk v=some b){i:Nat}{u:Value}(hu:xs[i]?=some u):w.cell? ⟨b,i,none⟩=some u:=by
 rcases h.2 with⟨rfl,_⟩ | ⟨b',cap,cur,rfl,_,hg,_,_,_,ht⟩
 · simp[blk]at hb
 · simp[blk]at hb
   subst hb
   rw[cell_of_row w b' i cur e (0,0) hg]
   rw[← ht,List.getElem?_take]at hu
   split at hu
   · simpa using hu
   · simp at hu
theorem Sim.row (S:Sim base w0 lm0 N g a w s){d e k:Nat}{fz:Bool}{l:List (List PV)}(hd:get s.h d=some (.row e k fz l)){i j:Nat}{u:Value}(hr:SRep w g (get s.h) (.mp d i j) u) :
 0<k/\ (∀ c∈l,c.length=k)/\∃ b xs,u= .pointer (some ⟨b,i*k+j,none⟩)/\blk (g.v d)=some b/\w.ownsRow base e k (g.v d) l.length xs/\RepL w g.lm l.flatten xs/\ (∀ u∈xs,u.oneCell'=true):=by
 obtain⟨h1,h2,⟨xs,h3,h4,h5⟩,h6⟩:=S.ob d _ hd
 simp only[SRep,hd]at hr
 obtain⟨b,hb,rfl⟩:=hr
 exact⟨h1,h2,b,xs,rfl,hb,h3,h4,h5⟩
theorem Tsn (S:Sim base w0 lm0 N g a w s){t:TypeId}{x:Operand}{y:X}{e:Eff}{call:Call}{d:Nat}(ho:o.op= .load t x)(ha:aggT P t=some false)(hx:okX x y=true)
 (he:eff call s d (.ld1 y)=some e):EffOK P base w0 lm0 N g a w s o e:=by
 simp only[eff]at he
 cases hv:y.ev s with
 | none=>rw[hv]at he; simp at he
 | some v =>
  rw[hv]at he
  have hr:=Tag S hx hv
  cases v with
  | p z =>
   cases z with
   | pt l =>
    cases l with
    | nil=>simp at he
    | cons c l =>
     simp only[oIE]at he
     subst he
     obtain⟨b,of,vs,hu,hl,hm⟩:=Tlb hr
     cases hl with
     | cons hc hl =>
      rename_i v0 vs
      obtain⟨h1,h2,h3⟩:=hm 0 v0 rfl
      rw[Nat.add_zero]at h1
      refine EffOK.pure S (u:=v0) ?_ hc
      simp[execOp,ho,hu,Tc6 ha h1]
   | _=>simp at he
  | mp d' i j =>
   dsimp only at he
   cases hd:get s.h d' with
   | none=>rw[hd]at he; simp at he
   | some ob =>
    cases ob<;> rw[hd]at he<;> first | (simp at he; done) | skip
    rename_i e' k fz l
    dsimp only at he
    cases hc:cellAt l i j with
    | none=>rw[hc]at he; simp at he
    | some c =>
     rw[hc]at he
     simp only[oIE]at he
     subst he
     obtain⟨h0,hk,b,xs,hu,hb,hown,hrl,h1⟩:=S.row hd hr
     obtain⟨v0,hv0,hrep⟩:=hrl.get _ _ (Tb4 hk hc)
     refine EffOK.pure S (u:=v0) ?_ hrep
     have:=Tc6 ha (Ta5 hown hb hv0)
     simp[execOp,ho,hu,this]
  | _=>simp at he
end
end Go.Proofs.YtjpibniecllafaaGreat.AM
end
section
namespace Go.Proofs.YtjpibniecllafaaGreat.AM
open Go Go.RowKit
section
variable {P:Program}{base:Nat}{w0:World}{lm0:L0}{N:Nat}{g:Gs}{a:Act}{w:World}{s:St}{o:Oper}
theorem Tso (S:Sim base w0 lm0 N g a w s) {t:TypeId} {x:Operand} {y:X} {k:Nat} {e:Eff} {call:Call} {d:Nat} (ho:o.op= .load t x) (ha:aggT P t=some true) (hk:P.cellsOf t=k) (h0:0<k) (hx:okX x y=true)
 (he:eff call s d (.ldk k y)=some e):EffOK P base w0 lm0 N g a w s o e:=by
 simp only[eff]at he
 cases hv:y.ev s with
 | none=>rw[hv]at he; simp at he
 | some v =>
  rw[hv]at he
  have hr:=Tag S hx hv
  cases v with
  | p z =>
   cases z with
   | pt l =>
    dsimp only at he
    split at he
    · rename_i hle
      simp only[oIE]at he
      subst he
      obtain⟨b,of,vs,hu,hl,hm⟩:=Tlb hr
      have hlen:=hl.length
      have hm':=hm.take k
      refine EffOK.pure S (u:= .agg (vs.take k).toArray) ?_ (.st (hl.take k) fun u hu=> ?_)
      · have:=Te3 (P:=P) (w:=w) ha hk h0 (b:=b) (o:=of) (vs:=vs.take k) (by simp; omega) (fun j u hu=> (hm' j u hu).1)
        simp[execOp,ho,hu,this]
      · obtain⟨j,hj,e⟩:=List.getElem_of_mem hu
        exact(hm' j u (by rw[List.getElem?_eq_getElem hj,e])).2.2
    · simp at he
   | _=>simp at he
  | mp d' i j =>
   dsimp only at he
   cases hd:get s.h d' with
   | none=>rw[hd]at he; simp at he
   | some ob =>
    cases ob<;> rw[hd]at he<;> first | (simp at he; done) | skip
    rename_i e' k' fz l
    dsimp only at he
    cases hc:l[i]? with
    | none=>rw[hc]at he; simp at he
    | some c =>
     rw[hc]at he
     dsimp only at he
     split at he
     · rename_i hle
       simp only[oIE]at he
       subst he
       obtain⟨h0',hk',b,xs,hu,hb,hown,hrl,h1⟩:=S.row hd hr
       have hil:i<l.length:= (List.getElem?_eq_some_iff.1 hc).1
       have hck:c.length=k':=hk' c (List.mem_of_getElem? hc)
       have e1: (l.flatten.drop (i*k'+j)).take k= (c.drop j).take k:=by
        rw[← List.drop_drop,Tat i hk']
        have:l.drop i=c::l.drop (i+1):=by
         rw[List.drop_eq_getElem_cons hil]
         congr 1
         simpa[List.getElem?_eq_getElem hil]using hc
        rw[this,List.flatten_cons,List.drop_append_of_le_length (by omega),List.take_append_of_le_length (by simp; omega)]
       have hrl':= (hrl.drop (i*k'+j)).take k
       rw[e1]at hrl'
       have hlen:=hrl'.length
       rw[List.length_take,List.length_drop,Nat.min_eq_left (by omega)]at hlen
       refine EffOK.pure S (u:= .agg ((xs.drop (i*k'+j)).take k).toArray) ?_ (.st hrl' fun u hu=>h1 u (List.mem_of_mem_drop (List.mem_of_mem_take hu)))
       have:=Te3 (P:=P) (w:=w) ha hk h0 (b:=b) (o:=i*k'+j) (vs:= (xs.drop (i*k'+j)).take k) hlen.symm (fun q u hu=>Ta5 hown hb (by
        rw[List.getElem?_take]at hu
        split at hu
        · rw[List.getElem?_drop]at hu; exact hu
        · simp at hu))
       simp[execOp,ho,hu,this]
     · simp at he
  | _=>simp at he
theorem ev_p {y:X}{x:PV}(S:Sim base w0 lm0 N g a w s){z:Operand}(h:okX z y=true)(hv:y.ev s=some (.p x)):Rep w g.lm x (a.eval z):=Tag S h hv
theorem T27 (S:Sim base w0 lm0 N g a w s){op op':UnOp}{t:TypeId}{x:Operand}{y:X}{z r:PV}(ho:o.op= .unOp op t x)(hop:op=op')(hx:okX x y=true)(hv:y.ev s=some (.p z))(hr:sop1 (.un op') z=some r) :
 EffOK P base w0 lm0 N g a w s o ⟨.p r,[]⟩:=by
 subst hop
 have hrep:=ev_p S hx hv
 simp only[sop1,unS]at hr
 split at hr
 · cases op<;> simp at hr
   subst hr
   exact EffOK.pure S (u:= .bool _) (by simp[execOp,ho,Ta6 hrep,Op.unary]) (.sc _)
 · cases op<;> simp at hr
   subst hr
   exact EffOK.pure S (u:= .int _ _) (by simp[execOp,ho,Ta6 hrep,Op.unary,Op.intArith]) (.sc _)
 · simp at hr
theorem T28 (S:Sim base w0 lm0 N g a w s){t1 t2:TypeId}{d1:TypeDesc}{k:IntKind}{x:Operand}{y:X}{z r:PV}(ho:o.op= .convert t1 t2 x)(h1:P.underlying t1=some d1)(h2:P.underlying t2=some (.int k))(hx:okX x y=true)(hv:y.ev s=some (.p z))(hr:sop1 (.cv k) z=some r) :
 EffOK P base w0 lm0 N g a w s o ⟨.p r,[]⟩:=by
 have hrep:=ev_p S hx hv
 simp only[sop1]at hr
 split at hr
 · rename_i k' n
   simp at hr; subst hr
   refine EffOK.pure S (u:= .int k (k.wrap n)) ?_ (.sc _)
   simp[execOp,ho,Ta6 hrep,convert,run_underlying h1,run_underlying h2,Conv.intToInt]
 · simp at hr
theorem Tz3 (S:Sim base w0 lm0 N g a w s){t1 t2:TypeId}{d1:TypeDesc}{x:Operand}{y:X}{z r:PV}(ho:o.op= .convert t1 t2 x)(h1:P.underlying t1=some d1)(h2:P.underlying t2=some .string)(hx:okX x y=true)(hv:y.ev s=some (.p z))(hr:sop1 .i2s z=some r) :
 EffOK P base w0 lm0 N g a w s o ⟨.p r,[]⟩:=by
 have hrep:=ev_p S hx hv
 simp only[sop1]at hr
 split at hr
 · rename_i k' n
   simp at hr; subst hr
   refine EffOK.pure S (u:= .string (Utf8.encode n)) ?_ (.sc _)
   simp[execOp,ho,Ta6 hrep,convert,run_underlying h1,run_underlying h2,Conv.intToString]
 · simp at hr
theorem Tz4 (S:Sim base w0 lm0 N g a w s){t1 t2:TypeId}{d1:TypeDesc}{x:Operand}{y:X}{z r:PV}(ho:o.op= .convert t1 t2 x)(h1:P.underlying t1=some d1)(h2:P.underlying t2=some .string)(hx:okX x y=true)(hv:y.ev s=some (.p z))(hr:sop1 .s2s z=some r) :
 EffOK P base w0 lm0 N g a w s o ⟨.p r,[]⟩:=by
 have hrep:=ev_p S hx hv
 simp only[sop1]at hr
 split at hr
 · rename_i n
   simp at hr; subst hr
   refine EffOK.pure S (u:= .string n) ?_ (.sc _)
   simp[execOp,ho,Ta6 hrep,convert,run_underlying h1,run_underlying h2]
 · simp at hr
theorem Tz5 (S:Sim base w0 lm0 N g a w s) {op:BinOp} {t ty:TypeId} {x1 x2:Operand} {y1 y2:X} {z1 z2 r:PV} (ho:o.op= .binOp op t x1 x2 ty) (hx1:okX x1 y1=true) (hx2:okX x2 y2=true) (hv1:y1.ev s=some (.p z1)) (hv2:y2.ev s=some (.p z2)) (hr:sop2 (.bin op) z1 z2=some r) :
    EffOK P base w0 lm0 N g a w s o ⟨.p r,[]⟩:=by
  have r1:=ev_p S hx1 hv1
  have r2:=ev_p S hx2 hv2
  simp only[sop2,binS]at hr
  split at hr
  · rename_i k m k' n
    have e1:=Ta6 r1
    have e2:=Ta6 r2
    have fin:∀ u:Value,r= .sc u-> (binOp op t (.int k m) (.int k' n)).run P w= .ok u w->EffOK P base w0 lm0 N g a w s o ⟨.p r,[]⟩:=by
      rintro u rfl hrun
      refine EffOK.pure S (u:=u) ?_ (.sc _)
      have hg: (eqGuard op t x1 x2 (.int k m) (.int k' n)).run P w= .ok () w:=by
        unfold eqGuard
        cases op<;> simp
      simp[execOp,ho,e1,e2,hg,hrun]
    cases op<;> dsimp only at hr
    case shl=>split at hr<;> simp at hr; subst hr; rename_i h; exact fin _ rfl (by simp[binOp,Op.shift,h])
    case shr=>split at hr<;> simp at hr; subst hr; rename_i h; exact fin _ rfl (by simp[binOp,Op.shift,h])
    all_goals
      split at hr
      · rename_i h
        subst h
        first
          | (simp at hr; subst hr; exact fin _ rfl (by simp[binOp,Op.intArith,Op.intCmp,Op.intBits]))
          | (split at hr
             · simp at hr
             · rename_i h0; simp at hr; subst hr; exact fin _ rfl (by simp[binOp,Op.intDiv,h0]))
      · simp at hr
  · rename_i p q
    have e1:=Ta6 r1
    have e2:=Ta6 r2
    have fin:∀ u:Value,r= .sc u-> (binOp op t (.string p) (.string q)).run P w= .ok u w->EffOK P base w0 lm0 N g a w s o ⟨.p r,[]⟩:=by
      rintro u rfl hrun
      refine EffOK.pure S (u:=u) ?_ (.sc _)
      have hg: (eqGuard op t x1 x2 (.string p) (.string q)).run P w= .ok () w:=by
        unfold eqGuard
        cases op<;> simp
      simp[execOp,ho,e1,e2,hg,hrun]
    cases op<;> dsimp only at hr<;> first | (simp at hr; done) | skip
    · split at hr
      · rename_i h
        simp at hr; subst hr
        have h':¬ (((p.size+q.size:Nat):Int) > IntKind.i64.max):=by
          have:IntKind.i64.max=9223372036854775807:=rfl
          rw[this]; omega
        refine fin _ rfl ?_
        simp only[binOp,Op.stringOp]
        rw[if_neg h']
        simp
      · simp at hr
    · simp at hr; subst hr; exact fin _ rfl (by simp[binOp,Op.stringOp])
    · simp at hr; subst hr; exact fin _ rfl (by simp[binOp,Op.stringOp])
  · simp at hr
theorem Tz6 (S:Sim base w0 lm0 N g a w s){t:TypeId}{x1 x2:Operand}{y1 y2:X}{z1 z2 r:PV}(ho:o.op= .index t x1 x2)(ht:P.underlying t=some .string)(hx1:okX x1 y1=true)(hx2:okX x2 y2=true)(hv1:y1.ev s=some (.p z1))(hv2:y2.ev s=some (.p z2))(hr:sop2 .idx z1 z2=some r) :
 EffOK P base w0 lm0 N g a w s o ⟨.p r,[]⟩:=by
 have r1:=ev_p S hx1 hv1
 have r2:=ev_p S hx2 hv2
 simp only[sop2]at hr
 split at hr
 · rename_i st k i
   have e1:=Ta6 r1
   have e2:=Ta6 r2
   simp only[bt?]at hr
   by_cases h0:0<=i
   · rw[if_pos h0]at hr
     cases hb:st[i.toNat]? with
     | none=>rw[hb]at hr; simp at hr
     | some b =>
      rw[hb]at hr
      simp at hr; subst hr
      refine EffOK.pure S (u:= .int .u8 b.toNat) ?_ (.sc _)
      simp[execOp,ho,e1,e2,Instr.index,asIntOf,run_underlying ht,h0,hb]
   · rw[if_neg h0]at hr; simp at hr
 · simp at hr
theorem Tmx {t:TypeId}(ht:P.underlying t=some .bool)(p q:Bool): (Op.equal t (.bool p) (.bool q)).run P w= .ok (p == q) w:=by
 have:∀ n,(Op.equalIn (n+1) t (.bool p) (.bool q)).run P w= .ok (p == q) w:=fun n=>by simp[Op.equalIn,run_underlying ht]
 exact this 9999
theorem Tz7 (S:Sim base w0 lm0 N g a w s){ne:Bool}{op:BinOp}(hop:op=if ne then .neq else .eql){t ty:TypeId}{x1 x2:Operand}{y1 y2:X}{z1 z2 r:PV}(ho:o.op= .binOp op t x1 x2 ty)(ht:P.underlying t=some .bool)(hx1:okX x1 y1=true)(hx2:okX x2 y2=true)(hv1:y1.ev s=some (.p z1))(hv2:y2.ev s=some (.p z2))(hr:sop2 (.beq ne) z1 z2=some r) :
 EffOK P base w0 lm0 N g a w s o ⟨.p r,[]⟩:=by
 have r1:=ev_p S hx1 hv1
 have r2:=ev_p S hx2 hv2
 simp only[sop2]at hr
 split at hr
 · rename_i p q
   have e1:=Ta6 r1
   have e2:=Ta6 r2
   simp at hr; subst hr
   have hq: (Op.equal t (.bool p) (.bool q)).run P w= .ok (p == q) w:=Tmx ht p q
   refine EffOK.pure S (u:= .bool (if ne then !(p == q)else p == q)) ?_ (.sc _)
   cases ne<;> subst hop<;> simp[execOp,ho,e1,e2,eqGuard,binOp,hq]
 · simp at hr
theorem Tiv {t e:TypeId}(ht:P.underlying t=some (.pointer e))(ad:Option Addr): (Op.equal t (.pointer ad) (.pointer none)).run P w= .ok ad.isNone w:=by
 have:∀ n,(Op.equalIn (n+1) t (.pointer ad) (.pointer none)).run P w= .ok ad.isNone w:=fun n=>by cases ad<;> simp[Op.equalIn,run_underlying ht]
 exact this 9999
theorem Tz8 (S:Sim base w0 lm0 N g a w s){ne:Bool}{op:BinOp}(hop:op=if ne then .neq else .eql){t ty e:TypeId}{x1 x2:Operand}{y1 y2:X}{call:Call}{d:Nat}{r:Eff}(ho:o.op= .binOp op t x1 x2 ty)(ht:P.underlying t=some (.pointer e))(hx1:okX x1 y1=true)(hx2:okX x2 y2=true)(hr:eff call s d (.s2 (.peq ne) y1 y2)=some r) :
 EffOK P base w0 lm0 N g a w s o r:=by
 have key:∀(ad:Option Addr),a.eval x1= .pointer ad->a.eval x2= .pointer none->r= ⟨.p (.sc (.bool (if ne then !ad.isNone else ad.isNone))),[]⟩->EffOK P base w0 lm0 N g a w s o r:=by
  rintro ad e1 e2 rfl
  have hq:=Tiv (P:=P) (w:=w) ht ad
  refine EffOK.pure S (u:= .bool (if ne then !ad.isNone else ad.isNone)) ?_ (.sc _)
  cases ne<;> subst hop<;> simp[execOp,ho,e1,e2,eqGuard,binOp,hq]
 simp only[eff]at hr
 cases hv1:y1.ev s with
 | none=>rw[hv1]at hr; simp at hr
 | some v1 =>
  cases hv2:y2.ev s with
  | none=>rw[hv1,hv2]at hr; cases v1<;> simp at hr
  | some v2 =>
   have r1:=Tag S hx1 hv1
   have r2:=Tag S hx2 hv2
   rw[hv1,hv2]at hr
   split at hr
   · rename_i z1 z2 h1 h2
     obtain rfl:=oIj h1
     obtain rfl:=oIj h2
     simp only[sop2]at hr
     split at hr
     · obtain⟨b,of,vs,hu,_⟩:=Tlb r1
       simp[uns]at hr
       exact key _ hu (Ta6 r2) (by rw[← hr]; cases ne<;> rfl)
     · simp[uns]at hr
       exact key none (Ta6 r1) (Ta6 r2) (by rw[← hr]; cases ne<;> rfl)
     · simp[uns]at hr
   · rename_i d' i j h1 h2
     obtain rfl:=oIj h1
     obtain rfl:=oIj h2
     try dsimp only at hr
     cases hd:get s.h d' with
     | none=>rw[hd]at hr; simp at hr
     | some ob =>
      cases ob<;> rw[hd]at hr<;> first | (simp at hr; done) | skip
      simp at hr
      obtain⟨_,_,b,xs,hu,_⟩:=S.row hd r1
      exact key _ hu (Ta6 r2) (by rw[← hr]; cases ne<;> rfl)
   · simp at hr
theorem Te4 {t:TypeId}(h:aggT P t=some false){cs:List Value}{off:Nat}{u:Value}(hu:cs[off]?=some u): (part t cs.toArray off).run P w= .ok u w:=by
 simp[part,Tc5 h,hu]
theorem Tlc {t:TypeId}(h:aggT P t=some true){k:Nat}(hk:P.cellsOf t=k)(h0:0<k){cs:List Value}{off:Nat}: (part t cs.toArray off).run P w= .ok (.agg ((cs.drop off).take k).toArray) w:=by
 simp only[part,Sem.run_bind,Tc5 h,Result.andThen_ok,if_true,Tao hk h0,Sem.run_pure]
 congr 2
 apply Array.ext'
 simp[List.extract_eq_take_drop]
theorem Two (S:Sim base w0 lm0 N g a w s){t:TypeId}{fs:Array Field}{i:Nat}{f:Field}{x:Operand}{y:X}{off:Nat}{call:Call}{d:Nat}{e:Eff}(ho:o.op= .field t x i)(ht:P.underlying t=some (.struct fs))(hf:fs[i]?=some f)(hoff:f.offset=off)(ha:aggT P f.type=some false)(hx:okX x y=true)
 (he:eff call s d (.fld1 y off)=some e):EffOK P base w0 lm0 N g a w s o e:=by
 simp only[eff]at he
 cases hv:y.ev s with
 | none=>rw[hv]at he; simp at he
 | some v =>
  rw[hv]at he
  have hr:=Tag S hx hv
  split at he
  · rename_i l h1
    obtain rfl:=oIj h1
    obtain⟨vs,hu,hl,h1⟩:=Tit hr
    cases hc:l[off]? with
    | none=>rw[hc]at he; simp at he
    | some c =>
     rw[hc]at he
     simp only[oIE]at he
     subst he
     obtain⟨u,hu2,hrep⟩:=hl.get _ _ hc
     refine EffOK.pure S (u:=u) ?_ hrep
     simp[execOp,ho,hu,Instr.field,run_underlying ht,hf,asAgg,hoff,Te4 ha hu2]
  · simp at he
theorem Twp (S:Sim base w0 lm0 N g a w s){t:TypeId}{fs:Array Field}{i:Nat}{f:Field}{x:Operand}{y:X}{off k:Nat}{call:Call}{d:Nat}{e:Eff}(ho:o.op= .field t x i)(ht:P.underlying t=some (.struct fs))(hf:fs[i]?=some f)(hoff:f.offset=off)(ha:aggT P f.type=some true)(hk:P.cellsOf f.type=k)(h0:0<k)(hx:okX x y=true)
 (he:eff call s d (.fldk y off k)=some e):EffOK P base w0 lm0 N g a w s o e:=by
 simp only[eff]at he
 cases hv:y.ev s with
 | none=>rw[hv]at he; simp at he
 | some v =>
  rw[hv]at he
  have hr:=Tag S hx hv
  split at he
  · rename_i l h1
    obtain rfl:=oIj h1
    obtain⟨vs,hu,hl,h1⟩:=Tit hr
    split at he
    · simp only[oIE]at he
      subst he
      refine EffOK.pure S (u:= .agg ((vs.drop off).take k).toArray) ?_ (.st ((hl.drop off).take k) fun u hu=>h1 u (List.mem_of_mem_drop (List.mem_of_mem_take hu)))
      simp[execOp,ho,hu,Instr.field,run_underlying ht,hf,asAgg,hoff,Tlc ha hk h0]
    · simp at he
  · simp at he
theorem Tc1 {f:Field}(h:0<P.cellsOf f.type)(b of:Nat): (fieldPlace ⟨b,of,none⟩ f).run P w= .ok ⟨b,of+f.offset,none⟩ w:=by
 have:=Tao (P:=P) rfl h w
 simp only[fieldPlace,Sem.run_bind,this,Result.andThen_ok]
 rw[if_neg (by omega)]
 simp[add_n]
theorem T29 (S:Sim base w0 lm0 N g a w s){t:TypeId}{fs:Array Field}{i:Nat}{f:Field}{x:Operand}{y:X}{off:Nat}{call:Call}{d:Nat}{e:Eff}(ho:o.op= .fieldAddr t x i)(ht:P.underlying t=some (.struct fs))(hf:fs[i]?=some f)(hoff:f.offset=off)(h0:0<P.cellsOf f.type)(hx:okX x y=true)
 (he:eff call s d (.fa y off)=some e):EffOK P base w0 lm0 N g a w s o e:=by
 have hrun:∀ b of,a.eval x= .pointer (some ⟨b,of,none⟩)-> (execOp a.eval o).run P w= .ok (.value (.pointer (some ⟨b,of+off,none⟩))) w:=by
  intro b of hu
  simp[execOp,ho,hu,Instr.fieldAt,run_underlying ht,hf,Instr.sureAddr,Tc1 h0,hoff]
 simp only[eff]at he
 cases hv:y.ev s with
 | none=>rw[hv]at he; simp at he
 | some v =>
  rw[hv]at he
  have hr:=Tag S hx hv
  split at he
  · rename_i l h1
    obtain rfl:=oIj h1
    obtain⟨b,of,vs,hu,hl,hm⟩:=Tlb hr
    split at he
    · simp only[oIE]at he
      subst he
      exact EffOK.pure S (hrun b of hu) (Rep.pt (hl.drop off) (hm.drop off))
    · simp at he
  · rename_i d' i' j h1
    obtain rfl:=oIj h1
    try dsimp only at he
    cases hd:get s.h d' with
    | none=>rw[hd]at he; simp at he
    | some ob =>
     cases ob<;> rw[hd]at he<;> first | (simp at he; done) | skip
     simp only[oIE]at he
     subst he
     obtain⟨_,_,b,xs,hu,hb,_⟩:=S.row hd hr
     refine EffOK.pure S (hrun b _ hu) ?_
     simp only[SRep,hd]
     exact⟨b,hb,by rw[Nat.add_assoc]⟩
  · simp at he
theorem Tbg (S:Sim base w0 lm0 N g a w s){z:Operand}{y:X}{v:SV}{n:Nat}(h:okX z y=true)(hv:y.ev s=some v)(hn:natOf v=some n):∃ k,a.eval z= .int k (n:Int):=by
 have hr:=Tag S h hv
 unfold natOf at hn
 split at hn
 · split at hn
   · simp at hn; subst hn
     exact⟨_,by rw[Ta6 hr]; congr 1; omega⟩
   · simp at hn
 · simp at hn
theorem Ty8 (S:Sim base w0 lm0 N g a w s) {t el:TypeId} {x i:Operand} {y j:X} {k:Nat} {call:Call} {d:Nat} {e:Eff} (ho:o.op= .indexAddr t x i) (ht:P.underlying t=some (.slice el)) (hk:P.cellsOf el=k) (h0:0<k) (hx:okX x y=true) (hi:okX i j=true)
 (he:eff call s d (.ia k y j)=some e):EffOK P base w0 lm0 N g a w s o e:=by
 simp only[eff]at he
 cases hv:y.ev s with
 | none=>rw[hv]at he; simp at he
 | some v =>
  cases hw:j.ev s with
  | none=>rw[hv,hw]at he; simp at he
  | some u =>
   rw[hv,hw]at he
   dsimp only at he
   cases hn:natOf u with
   | none=>rw[hn]at he; simp at he
   | some n =>
    rw[hn]at he
    dsimp only at he
    obtain⟨ki,hi'⟩:=Tbg S hi hw hn
    have hr:=Tag S hx hv
    have hrun:∀ b of len cap,a.eval x= .slice (some ⟨b,of,none⟩) len cap->n<len-> (execOp a.eval o).run P w= .ok (.value (.pointer (some ⟨b,of+n*k,none⟩))) w:=by
     intro b of len cap hu hlt
     have h1: (0:Int)<= (n:Int)/\ (n:Int)< (len:Int):=by omega
     simp[execOp,ho,hu,hi',Instr.indexAt,run_underlying ht,asIntOf,h1,Tao hk h0,add_n,hlt]
    have plain:∀(l:List (List PV)) (u:Value),u=a.eval x-> (∃ ad cap,u= .slice ad l.length cap/\ (l= []∨ (0<k/\ (∀ c∈l,c.length=k)/\∃ b o vs,ad=some ⟨b,o,none⟩/\RepL w g.lm l.flatten vs/\Mem w g.lm b o vs)))-> (match l[n]? with | some c=>some (⟨.p (.pt c),[]⟩:Eff) | none=>none)=some e->EffOK P base w0 lm0 N g a w s o e:=by
     rintro l _ rfl ⟨ad,cap,hu,hl⟩ he
     cases hc:l[n]? with
     | none=>rw[hc]at he; simp at he
     | some c =>
      rw[hc]at he
      simp only[oIE]at he
      subst he
      have hlt:n<l.length:= (List.getElem?_eq_some_iff.1 hc).1
      rcases hl with rfl | ⟨_,hk',b,of,vs,rfl,hrl,hm⟩
      · simp at hlt
      · refine EffOK.pure S (hrun b of _ cap hu hlt) ?_
        have hck:c.length=k:=hk' c (List.mem_of_getElem? hc)
        have e1: (l.flatten.drop (n*k)).take k=c:=by
         rw[Tat n hk']
         have:l.drop n=c::l.drop (n+1):=by
          rw[List.drop_eq_getElem_cons hlt]
          congr 1
          simpa[List.getElem?_eq_getElem hlt]using hc
         rw[this,List.flatten_cons,List.take_append_of_le_length (by omega),List.take_of_length_le (by omega)]
        have hrl':= (hrl.drop (n*k)).take k
        rw[e1]at hrl'
        exact Rep.pt hrl' ((hm.drop (n*k)).take k)
    cases v with
    | p z =>
     cases z with
     | sl k' l =>
      dsimp only at he
      split at he
      · rename_i hkk
        subst hkk
        obtain⟨ad,cap,hu,_,hl⟩:=Tiu hr
        exact plain l _ rfl ⟨ad,cap,hu,hl⟩ he
      · simp at he
     | _=>simp at he
    | xs k' l =>
     dsimp only at he
     split at he
     · rename_i hkk
       subst hkk
       obtain⟨ad,hu,h2,h3,h4⟩:=hr
       exact plain l _ rfl ⟨ad,_,hu,h4.imp id fun⟨b,o,vs,q⟩=> ⟨h2,h3,b,o,vs,q⟩⟩ he
     · simp at he
    | ms d' off len =>
     dsimp only at he
     cases hd:get s.h d' with
     | none=>rw[hd]at he; simp at he
     | some ob =>
      cases ob<;> rw[hd]at he<;> first | (simp at he; done) | skip
      rename_i e' k' fz l
      dsimp only at he
      split at he
      · rename_i hc
        obtain⟨rfl,hlt⟩:=hc
        simp only[oIE]at he
        subst he
        simp only[SRep,hd]at hr
        obtain⟨hle,hr⟩:=hr
        obtain⟨h1,h2,⟨xs,h3,h4,h5⟩,h6⟩:=S.ob d' _ hd
        have hb:∃ b cap,blk (g.v d')=some b/\a.eval x= .slice (some ⟨b,off*k',none⟩) len cap:=by
         rcases hr with⟨rfl,rfl,hu⟩ | ⟨_,ad,cap,hu,_,hz⟩
         · rcases h3.2 with⟨hv0,h0'⟩ | ⟨b,cap,cur,hv0,_⟩
           · omega
           · exact⟨b,cap,by rw[hv0]; rfl,by rw[hu,hv0]; simp⟩
         · rcases hz with hz | ⟨b,hb,rfl⟩
           · omega
           · exact⟨b,cap,hb,hu⟩
        obtain⟨b,cap,hb,hu⟩:=hb
        refine EffOK.pure S (hrun b _ _ cap hu hlt) ?_
        simp only[SRep,hd]
        exact⟨b,hb,by rw[Nat.add_mul,Nat.add_zero]⟩
      · simp at he
    | _=>simp at he
theorem T3a (S:Sim base w0 lm0 N g a w s) {t el:TypeId} {x i:Operand} {y j:X} {k m:Nat} {call:Call} {d:Nat} {e:Eff} (ho:o.op= .indexAddr t x i) (ht:P.underlying t=some (.array m el)) (hk:P.cellsOf el=k) (h0:0<k) (hx:okX x y=true) (hi:okX i j=true)
 (he:eff call s d (.aa k m y j)=some e):EffOK P base w0 lm0 N g a w s o e:=by
 simp only[eff]at he
 cases hv:y.ev s with
 | none=>rw[hv]at he; simp at he
 | some v =>
  cases hw:j.ev s with
  | none=>rw[hv,hw]at he; cases v<;> simp at he
  | some u =>
   rw[hv,hw]at he
   have hr:=Tag S hx hv
   cases v with
   | mp d' i' j' =>
    dsimp only at he
    cases hn:natOf u with
    | none=>rw[hn]at he; simp at he
    | some n =>
     rw[hn]at he
     dsimp only at he
     cases hd:get s.h d' with
     | none=>rw[hd]at he; simp at he
     | some ob =>
      cases ob<;> rw[hd]at he<;> first | (simp at he; done) | skip
      rename_i e' k' fz l
      dsimp only at he
      split at he
      · rename_i hc
        obtain⟨rfl,hlt,rfl,rfl⟩:=hc
        simp only[oIE]at he
        subst he
        obtain⟨ki,hi'⟩:=Tbg S hi hw hn
        obtain⟨_,_,b,xs,hu,hb,_⟩:=S.row hd hr
        have h1: (0:Int)<= (n:Int)/\ (n:Int)< (m:Int):=by omega
        refine EffOK.pure S (u:= .pointer (some ⟨b,n*k',none⟩)) ?_ ?_
        · simp[execOp,ho,hu,hi',Instr.indexAt,run_underlying ht,asIntOf,h1,Instr.sureAddr,Tao hk h0,add_n,hlt]
        · simp only[SRep,hd]
          exact⟨b,hb,by simp⟩
      · simp at he
   | _=>simp at he
theorem Tz9 (S:Sim base w0 lm0 N g a w s){t el:TypeId}{m:Nat}{x i:Operand}{y j:X}{k:Nat}{call:Call}{d:Nat}{e:Eff}(ho:o.op= .index t x i)(ht:P.underlying t=some (.array m el))(ha:aggT P el=some true)(hk:P.cellsOf el=k)(h0:0<k)(hx:okX x y=true)(hi:okX i j=true)
 (he:eff call s d (.ixa k m y j)=some e):EffOK P base w0 lm0 N g a w s o e:=by
 simp only[eff]at he
 split at he
 · rename_i l v hv hw
   split at he
   · rename_i n hn
     split at he
     · rename_i hc
       simp only[oIE]at he
       subst he
       obtain⟨vs,hu,hl,h1⟩:=Tit (Tag S hx hv)
       obtain⟨ki,hi'⟩:=Tbg S hi hw hn
       refine EffOK.pure S (u:= .agg ((vs.drop (n*k)).take k).toArray) ?_ (.st ((hl.drop (n*k)).take k) fun u hu=>h1 u (List.mem_of_mem_drop (List.mem_of_mem_take hu)))
       have hlt: (0:Int)<= (n:Int)/\ (n:Int)< (m:Int):=by omega
       simp[execOp,ho,hu,hi',Instr.index,asIntOf,run_underlying ht,hc.1,Tao hk h0,Tlc ha hk h0]
     · simp at he
   · simp at he
 · simp at he
end
end Go.Proofs.YtjpibniecllafaaGreat.AM
end
section
namespace Go.Proofs.YtjpibniecllafaaGreat.AM
open Go Go.RowKit
def okO:Option Operand->Option X->Bool
 | none,none=>true
 | some x,some y=>okX x y
 | _,_=>false
section
variable {P:Program}{base:Nat}{w0:World}{lm0:L0}{N:Nat}{g:Gs}{a:Act}{w:World}{s:St}{o:Oper}
theorem Tdi (S:Sim base w0 lm0 N g a w s){v:SV}{u:Value}{n:Nat}(hr:SRep w g (get s.h) v u)(hn:svLen s.h v=some n):∃ ad cap,u= .slice ad n cap/\n<=cap:=by
 unfold svLen at hn
 split at hn
 · simp at hn; subst hn
   obtain⟨ad,cap,hu,hc,_⟩:=Tiu hr
   exact⟨ad,cap,hu,hc⟩
 · simp at hn; subst hn
   obtain⟨ad,hu,_⟩:=hr
   exact⟨ad,_,hu,Nat.le_refl _⟩
 · rename_i d off len
   split at hn
   · rename_i e k fz l hd
     simp at hn; subst hn
     simp only[SRep,hd]at hr
     obtain⟨hle,hr⟩:=hr
     rcases hr with⟨rfl,rfl,hu⟩ | ⟨_,ad,cap,hu,hc,_⟩
     · obtain⟨_,_,⟨xs,h3,_⟩,_⟩:=S.ob d _ hd
       rcases h3.2 with⟨hv,h0⟩ | ⟨b,cap,cur,hv,_,_,hc,_⟩
       · exact⟨none,0,by rw[hu,hv,h0],by omega⟩
       · exact⟨_,cap,by rw[hu,hv],hc⟩
     · exact⟨ad,cap,hu,hc⟩
   · simp at hn
 · simp at hn
theorem T0a (S:Sim base w0 lm0 N g a w s){t el:TypeId}{x:Operand}{y:X}{call:Call}{d:Nat}{e:Eff}(ho:o.op= .call {callee:= .builtin .len,args:= #[x],argTypes:= #[t]})
 (ht:P.underlying t=some (.slice el)) (hx:okX x y=true) (he:eff call s d (.len y)=some e):EffOK P base w0 lm0 N g a w s o e:=by
 simp only[eff]at he
 cases hv:y.ev s with
 | none=>rw[hv]at he; simp at he
 | some v =>
  rw[hv]at he
  dsimp only at he
  cases hn:svLen s.h v with
  | none=>rw[hn]at he; simp at he
  | some n =>
   rw[hn]at he
   simp only[oIE]at he
   subst he
   obtain⟨ad,cap,hu,hc⟩:=Tdi S (Tag S hx hv) hn
   exact EffOK.pure S (u:= .int .i64 n) (by simp[execOp,ho,hu,resolve,invoke,builtin,Builtin.len_,run_underlying ht,goInt]) (.sc _)
theorem Twq (S:Sim base w0 lm0 N g a w s){t:TypeId}{x:Operand}{y:X}{call:Call}{d:Nat}{e:Eff}(ho:o.op= .call {callee:= .builtin .len,args:= #[x],argTypes:= #[t]})
 (ht:P.underlying t=some .string) (hx:okX x y=true) (he:eff call s d (.lens y)=some e):EffOK P base w0 lm0 N g a w s o e:=by
 simp only[eff]at he
 split at he
 · rename_i st hv
   simp only[oIE]at he
   subst he
   have hu:=Ta6 (ev_p S hx hv)
   exact EffOK.pure S (u:= .int .i64 st.size) (by simp[execOp,ho,hu,resolve,invoke,builtin,Builtin.len_,run_underlying ht,goInt]) (.sc _)
 · simp at he
theorem Tan {v:Value}{k:IntKind}{n y:Nat}(hv:v= .int k (n:Int))(h:n<=y)(code:BoundsCode): (Instr.sliceBound v y code).run P w= .ok n w:=by
 have h1: (0:Int)<= (n:Int)/\ (n:Int)<= (y:Int):=by omega
 simp[Instr.sliceBound,asIntOf,hv,h]
theorem Tcl (S:Sim base w0 lm0 N g a w s){z:Option Operand}{y:Option X}{d n:Nat}(h:okO z y=true)(hn:natOr s d y=some n): (z=none/\n=d)∨∃ x k,z=some x/\a.eval x= .int k (n:Int):=by
 cases z<;> cases y<;> simp only[okO]at h<;> first | (simp at h; done) | skip
 · simp[natOr]at hn; exact .inl ⟨rfl,hn.symm⟩
 · rename_i x y
   simp only[natOr]at hn
   cases hv:y.ev s with
   | none=>rw[hv]at hn; simp at hn
   | some v =>
    rw[hv]at hn
    obtain⟨k,hk⟩:=Tbg S h hv hn
    exact .inr ⟨x,k,rfl,hk⟩
theorem Tg5 {lo hi:Option Operand}{cap len x y:Nat}{b:Bool}(hl: (lo=none/\x=0)∨∃ z k,lo=some z/\a.eval z= .int k (x:Int))(hh: (hi=none/\y=len)∨∃ z k,hi=some z/\a.eval z= .int k (y:Int))(h1:x<=y)(h2:y<=len)(h3:len<=cap) :
 (Instr.sliceBounds b len cap (lo.map a.eval) (hi.map a.eval) none).run P w= .ok (x,y,cap) w:=by
 rcases hl with⟨rfl,rfl⟩ | ⟨z,k,rfl,hz⟩<;> rcases hh with⟨rfl,rfl⟩ | ⟨z',k',rfl,hz'⟩
 · simp[Instr.sliceBounds]
 · simp[Instr.sliceBounds,Tan hz' (show y<=cap by omega)]
 · simp[Instr.sliceBounds,Tan hz h1]
 · simp[Instr.sliceBounds,Tan hz' (show y<=cap by omega),Tan hz h1]
theorem Tmy {lo hi mx:Option Operand}{cap len x y:Nat}(hl: (lo=none/\x=0)∨∃ z k,lo=some z/\a.eval z= .int k (x:Int))(hh:∃ z k,hi=some z/\a.eval z= .int k (y:Int))(hm:∃ z k,mx=some z/\a.eval z= .int k (y:Int))(h1:x<=y)(h3:y<=cap) :
 (Instr.sliceBounds true len cap (lo.map a.eval) (hi.map a.eval) (mx.map a.eval)).run P w= .ok (x,y,y) w:=by
 obtain⟨z,k,rfl,hz⟩:=hh
 obtain⟨z',k',rfl,hz'⟩:=hm
 rcases hl with⟨rfl,rfl⟩ | ⟨z'',k'',rfl,hz''⟩
 · simp[Instr.sliceBounds,Tan hz h3,Tan hz' h3,Tan hz (Nat.le_refl y),Tan hz' (Nat.le_refl y)]
 · simp[Instr.sliceBounds,Tan hz h3,Tan hz' h3,Tan hz (Nat.le_refl y),Tan hz' (Nat.le_refl y),Tan hz'' h1]
theorem T0b (S:Sim base w0 lm0 N g a w s){t:TypeId}{x:Operand}{lo hi:Option Operand}{y:X}{lo' hi':Option X}{call:Call}{d:Nat}{e:Eff}(ho:o.op= .slice t x lo hi none)
 (ht:P.underlying t=some .string) (hx:okX x y=true) (hlo:okO lo lo'=true) (hhi:okO hi hi'=true) (he:eff call s d (.sls y lo' hi')=some e):EffOK P base w0 lm0 N g a w s o e:=by
 simp only[eff]at he
 split at he
 · rename_i st hv
   cases hn:natOr s 0 lo' with
   | none=>rw[hn]at he; simp at he
   | some p =>
    cases hm:natOr s st.size hi' with
    | none=>rw[hn,hm]at he; simp at he
    | some q =>
     rw[hn,hm]at he
     dsimp only at he
     split at he
     · rename_i hc
       simp only[oIE]at he
       subst he
       have hu:=Ta6 (ev_p S hx hv)
       have hb:=Tg5 (P:=P) (w:=w) (b:=false) (cap:=st.size) (Tcl S hlo hn) (Tcl S hhi hm) hc.1 hc.2 (Nat.le_refl _)
       exact EffOK.pure S (u:= .string (st.extract p q)) (by simp[execOp,ho,hu,Instr.sliceAt,Instr.slice,run_underlying ht,hb]) (.sc _)
     · simp at he
 · simp at he
theorem Tld {t el:TypeId}{k:Nat}(ht:P.underlying t=some (.slice el))(hk:P.cellsOf el=k)(h0:0<k){ad:Option Addr}{len cap x y m:Nat}{lo hi mx:Option Value}(hb: (Instr.sliceBounds true len cap lo hi mx).run P w= .ok (x,y,m) w) :
 (Instr.sliceAt t (.slice ad len cap) lo hi mx).run P w= .ok (.slice (if m=x then ad else ad.map (·.add (x*k))) (y-x) (m-x)) w:=by
 simp[Instr.sliceAt,Instr.slice,run_underlying ht,hb,Tao hk h0]
theorem Tjz {lm:Nat->Nat}{k:Nat}{l:List (List PV)}{ad:Option Addr}{p q m:Nat}(hl:l= []∨ (0<k/\ (∀ c∈l,c.length=k)/\∃ b o vs,ad=some ⟨b,o,none⟩/\RepL w lm l.flatten vs/\Mem w lm b o vs))(h1:p<=q)(h2:q<=l.length)(h3:q<=m) :
 Rep w lm (.sl k ((l.drop p).take (q-p))) (.slice (if m=p then ad else ad.map (·.add (p*k))) (q-p) (m-p)):=by
 by_cases h0:q-p=0
 · rw[h0,List.take_zero]; exact .sl0
 · rcases hl with rfl | ⟨hk0,hk,b,of,vs,rfl,hrl,hm⟩
   · simp at h2; omega
   · rw[if_neg (by omega)]
     simp only[Option.map_some,add_n]
     have hkk:∀ c∈ (l.drop p).take (q-p),c.length=k:=fun c hc=>hk c (List.mem_of_mem_drop (List.mem_of_mem_take hc))
     have hfl: ((l.drop p).take (q-p)).flatten= (l.flatten.drop (p*k)).take ((q-p)*k):=by
      rw[Tat p hk,Tbz (q-p) (fun c hc=>hk c (List.mem_of_mem_drop hc))]
     have hll: ((l.drop p).take (q-p)).length=q-p:=by simp; omega
     have hr:= (hrl.drop (p*k)).take ((q-p)*k)
     rw[← hfl]at hr
     have:=Rep.sl (w:=w) (lm:=lm) (cap:=m-p) hk0 hkk hr ((hm.drop (p*k)).take ((q-p)*k)) (by rw[hll]; omega)
     rwa[hll]at this
theorem T0c (S:Sim base w0 lm0 N g a w s) {t el:TypeId} {k:Nat} {x:Operand} {lo hi mx:Option Operand} {y:X} {lo' hi' mx':Option X} {call:Call} {d:Nat} {e:Eff} (ho:o.op= .slice t x lo hi mx)
 (ht:P.underlying t=some (.slice el)) (hk:P.cellsOf el=k) (h0:0<k) (hx:okX x y=true) (hlo:okO lo lo'=true) (hhi:okO hi hi'=true) (hmx:okO mx mx'=true) (hmh:mx.isSome=true->hi.isSome=true)
 (he:eff call s d (.slc k y lo' hi' mx')=some e):EffOK P base w0 lm0 N g a w s o e:=by
 simp only[eff]at he
 cases hv:y.ev s with
 | none=>rw[hv]at he; simp at he
 | some v =>
  rw[hv]at he
  dsimp only at he
  cases hn:svLen s.h v with
  | none=>rw[hn]at he; simp at he
  | some n =>
   rw[hn]at he
   dsimp only at he
   cases hp:natOr s 0 lo' with
   | none=>rw[hp]at he; simp at he
   | some p =>
    cases hq:natOr s n hi' with
    | none=>rw[hp,hq]at he; simp at he
    | some q =>
     rw[hp,hq]at he
     dsimp only at he
     split at he
     case isFalse=>simp at he
     rename_i hc
     obtain⟨h1,h2⟩:=hc
     have hr:=Tag S hx hv
     obtain⟨ad,cap,hu,hcap⟩:=Tdi S hr hn
     have np:=Tcl S hlo hp
     have nq:=Tcl S hhi hq
     cases mx' with
     | none =>
      have hmx0:mx=none:=by cases mx<;> simp_all [okO]
      subst hmx0
      have hb:=Tg5 (P:=P) (w:=w) (b:=true) np nq h1 h2 hcap
      have hrun: (execOp a.eval o).run P w= .ok (.value (.slice (if cap=p then ad else ad.map (·.add (p*k))) (q-p) (cap-p))) w:=by
       have:=Tld (P:=P) (w:=w) ht hk h0 (ad:=ad) hb
       simp only[execOp,ho,hu,Option.map_none,Sem.run_bind,this,Result.andThen_ok,Sem.run_pure]
      cases v with
      | p z =>
       cases z with
       | sl k' l =>
        dsimp only at he
        split at he
        · rename_i hkk
          subst hkk
          simp only[oIE]at he
          subst he
          obtain⟨ad',cap',hu',_,hl⟩:=Tiu hr
          rw[hu]at hu'
          simp only[Value.slice.injEq]at hu'
          obtain⟨rfl,rfl,rfl⟩:=hu'
          exact EffOK.pure S hrun (Tjz hl h1 h2 (by omega))
        · simp at he
       | _=>simp at he
      | xs k' l =>
       dsimp only at he
       split at he
       · rename_i hkk
         subst hkk
         simp only[oIE]at he
         subst he
         obtain⟨ad',hu',h3,h4,h5⟩:=hr
         rw[hu]at hu'
         simp only[Value.slice.injEq]at hu'
         obtain⟨rfl,rfl,rfl⟩:=hu'
         exact EffOK.pure S hrun (Tjz (h5.imp id fun⟨b,o,vs,q⟩=> ⟨h3,h4,b,o,vs,q⟩) h1 h2 (by omega))
       · simp at he
      | ms d' off len =>
       dsimp only at he
       cases hd:get s.h d' with
       | none=>rw[hd]at he; simp at he
       | some ob =>
        cases ob<;> rw[hd]at he<;> first | (simp at he; done) | skip
        rename_i e' k' fz l
        dsimp only at he
        split at he
        · rename_i hkk
          subst hkk
          simp only[oIE]at he
          subst he
          have hnl:n=len:=by simp[svLen,hd]at hn; exact hn.symm
          subst hnl
          refine EffOK.pure S hrun ?_
          simp only[SRep,hd]at hr ⊢
          obtain⟨hle,hr⟩:=hr
          refine⟨by omega,?_⟩
          obtain⟨_,_,⟨xs,h3,_⟩,_⟩:=S.ob d' _ hd
          by_cases hfull:off+p=0/\q-p=l.length
          · obtain⟨h5,h6⟩:=hfull
            have hoff:off=0:=by omega
            have hp0:p=0:=by omega
            have hnl:n=l.length:=by omega
            subst hoff; subst hp0
            rcases hr with⟨_,_,hu'⟩ | ⟨hno,_⟩
            · refine .inl ⟨rfl,h6,?_⟩
              rw[← hu',hu]
              have:q=n:=by omega
              subst this
              cases ad<;> simp[add_n,Addr.add]
            · exact absurd ⟨rfl,hnl⟩ hno
          · refine .inr ⟨hfull,_,_,rfl,by omega,?_⟩
            by_cases hz:q-p=0
            · exact .inl hz
            · right
              rw[if_neg (by omega)]
              rcases hr with⟨rfl,rfl,hu'⟩ | ⟨_,ad',cap',hu',_,hz'⟩
              · rcases h3.2 with⟨hv0,h0'⟩ | ⟨b,cap'',cur,hv0,_⟩
                · omega
                · rw[hu,hv0]at hu'
                  simp only[Value.slice.injEq]at hu'
                  obtain⟨rfl,_,_⟩:=hu'
                  exact⟨b,by rw[hv0]; rfl,by simp[add_n]⟩
              · rw[hu]at hu'
                simp only[Value.slice.injEq]at hu'
                obtain⟨rfl,_,_⟩:=hu'
                rcases hz' with hz' | ⟨b,hb',rfl⟩
                · omega
                · exact⟨b,hb',by simp[add_n,Nat.add_mul]⟩
        · simp at he
      | _=>simp at he
     | some m =>
      dsimp only at he
      cases hm:natOr s 0 (some m)with
      | none=>rw[hm]at he; simp at he
      | some c =>
       rw[hm]at he
       dsimp only at he
       split at he
       case isFalse=>simp at he
       rename_i hcb
       subst hcb
       cases hf:frz s.h v with
       | none=>rw[hf]at he; simp at he
       | some z =>
        obtain⟨z,fr⟩:=z
        rw[hf]at he
        cases z<;> dsimp only at he<;> first | (simp at he; done) | skip
        rename_i k' l
        split at he
        case isFalse=>simp at he
        rename_i hkk
        subst hkk
        simp only[oIE]at he
        subst he
        have hmx1:∃ z kk,mx=some z/\a.eval z= .int kk (c:Int):=by
         rcases Tcl S hmx hm with⟨h,h'⟩ | h
         · subst h; simp[okO]at hmx
         · exact h
        have hhi1:∃ z kk,hi=some z/\a.eval z= .int kk (c:Int):=by
         rcases nq with⟨h,h'⟩ | h
         · obtain⟨z,_,hz,_⟩:=hmx1
           subst h; subst hz; simp at hmh
         · exact h
        have hb:=Tmy (P:=P) (w:=w) (len:=n) (cap:=cap) np hhi1 hmx1 h1 (by omega)
        have hrun: (execOp a.eval o).run P w= .ok (.value (.slice (if c=p then ad else ad.map (·.add (p*k'))) (c-p) (c-p))) w:=by
         have:=Tld (P:=P) (w:=w) ht hk h0 (ad:=ad) hb
         simp only[execOp,ho,hu,Sem.run_bind,this,Result.andThen_ok,Sem.run_pure]
        obtain⟨lm',S',r',T',_⟩:=Tc0 S (fun d=>Fz.refl _) hr hf
        refine⟨_,w,⟨lm',g.v⟩,.inl hrun,S',?_⟩
        obtain⟨ad',cap',hu',_,hl⟩:=Tiu r'
        rw[hu]at hu'
        simp only[Value.slice.injEq]at hu'
        obtain⟨rfl,rfl,rfl⟩:=hu'
        have hrep:=Tjz (p:=p) (q:=c) (m:=c) hl h1 h2 (Nat.le_refl _)
        have hll: ((l.drop p).take (c-p)).length=c-p:=by simp; omega
        obtain⟨ad2,cap2,hu2,_,hl2⟩:=Tiu hrep
        rw[hll]at hu2
        simp only[Value.slice.injEq]at hu2
        obtain⟨h7,_,_⟩:=hu2
        refine⟨ad2,?_,h0,?_,?_⟩
        · rw[hll,h7]
        · intro x hx
          rcases hl2 with h | ⟨_,h,_⟩
          · rw[h]at hx; simp at hx
          · exact h x hx
        · exact hl2.imp id fun⟨_,_,h⟩=>h
end
end Go.Proofs.YtjpibniecllafaaGreat.AM
end
section
namespace Go.Proofs.YtjpibniecllafaaGreat.AM
open Go Go.RowKit
section
variable {P:Program}{base:Nat}{w0:World}{lm0:L0}{N:Nat}{g:Gs}{a:Act}{w:World}{s:St}{o:Oper}
theorem Tsp (S:Sim base w0 lm0 N g a w s){x:Operand}{y:X}{i:Nat}{call:Call}{d:Nat}{e:Eff}(ho:o.op= .extract x i)(hx:okX x y=true)(he:eff call s d (.ext y i)=some e):EffOK P base w0 lm0 N g a w s o e:=by
 simp only[eff]at he
 split at he
 · rename_i l hv
   obtain⟨vs,hu,hl⟩:=T26 (ev_p S hx hv)
   cases hc:l[i]? with
   | none=>rw[hc]at he; simp at he
   | some c =>
    rw[hc]at he
    simp only[oIE]at he
    subst he
    obtain⟨v,hv,hrep⟩:=hl.get _ _ hc
    exact EffOK.pure S (u:=v) (by simp[execOp,ho,hu,Instr.extract,hv]) hrep
 · simp at he
theorem T0d (S:Sim base w0 lm0 N g a w s){x:Operand}{y:X}{call:Call}{d:Nat}{e:Eff}(ho:o.op= .nilCheck x)(hx:okX x y=true)(he:eff call s d (.nck y)=some e):EffOK P base w0 lm0 N g a w s o e:=by
 simp only[eff]at he
 cases hv:y.ev s with
 | none=>rw[hv]at he; simp at he
 | some v =>
  rw[hv]at he
  have hr:=Tag S hx hv
  split at he
  · rename_i l h1
    obtain rfl:=oIj h1
    simp only[oIE]at he
    subst he
    obtain⟨b,of,vs,hu,_⟩:=Tlb hr
    exact EffOK.pure S (u:=a.eval x) (by simp[execOp,ho,hu]) hr
  · rename_i d' i j h1
    obtain rfl:=oIj h1
    cases hd:get s.h d' with
    | none=>rw[hd]at he; simp at he
    | some ob =>
     cases ob<;> rw[hd]at he<;> first | (simp at he; done) | skip
     simp only[oIE]at he
     subst he
     obtain⟨_,_,b,xs,hu,_⟩:=S.row hd hr
     exact EffOK.pure S (u:=a.eval x) (by simp[execOp,ho,hu]) hr
  · simp at he
theorem T0e (S:Sim base w0 lm0 N g a w s){f:FuncId}{xs:List Operand}{ys:List X}{call:Call}{d:Nat}{e:Eff}(ho:o.op= .makeFunc (.func f) #[] xs.toArray)(hx:okXs xs ys=true)(he:eff call s d (.mkf f ys)=some e):EffOK P base w0 lm0 N g a w s o e:=by
 simp only[eff]at he
 cases hv:evs s ys with
 | none=>rw[hv]at he; simp at he
 | some vs =>
  rw[hv]at he
  dsimp only at he
  cases hf:frzs s.h vs with
  | none=>rw[hf]at he; simp at he
  | some q =>
   obtain⟨zs,fr⟩:=q
   rw[hf]at he
   simp only[oIE]at he
   subst he
   refine EffOK.frzs S (Ta1 S hx hv) hf (u:= .func (.func f) #[] (xs.map a.eval).toArray) ?_ (fun lm' h=> .fn h)
   simp[execOp,ho,Instr.makeFunc]
theorem T0f (S:Sim base w0 lm0 N g a w s){t:TypeId}{dsc:TypeDesc}{x:Operand}{y:X}{call:Call}{d:Nat}{e:Eff}(ho:o.op= .makeInterface t x)(ht:P.underlying t=some dsc)(hni:∀ ms,dsc≠ .interface ms)(hx:okX x y=true)(he:eff call s d (.mki t y)=some e):EffOK P base w0 lm0 N g a w s o e:=by
 simp only[eff]at he
 cases hv:y.ev s with
 | none=>rw[hv]at he; simp at he
 | some v =>
  rw[hv]at he
  dsimp only at he
  cases hf:frz s.h v with
  | none=>rw[hf]at he; simp at he
  | some q =>
   obtain⟨z,fr⟩:=q
   rw[hf]at he
   simp only[oIE]at he
   subst he
   refine EffOK.frz S (Tag S hx hv) hf (u:= .iface t (a.eval x)) ?_ (fun lm' h=> .ifc h)
   cases dsc<;> first | exact absurd rfl (hni _) | simp[execOp,ho,Instr.makeInterface,run_underlying ht]
theorem Tsq {h:List (Nat×Ob)}{v:SV}{vs:List SV}{q:List PV×List (Nat×Ob)}(hf:frzs h (v::vs)=some q):∃ x f1 xs f2,frz h v=some (x,f1)/\frzs h vs=some (xs,f2)/\q= (x::xs,f1++f2):=by
 simp only[frzs]at hf
 cases h1:frz h v with
 | none=>rw[h1]at hf; simp at hf
 | some q1 =>
  obtain⟨x,f1⟩:=q1
  rw[h1]at hf
  dsimp only at hf
  cases h2:frzs h vs with
  | none=>rw[h2]at hf; simp at hf
  | some q2 =>
   obtain⟨xs,f2⟩:=q2
   rw[h2]at hf
   exact⟨x,f1,xs,f2,rfl,rfl,(oIj hf).symm⟩
def mm2 (mx:Bool):Value->Value->Sem Value:=if mx then Builtin.max2 else Builtin.min2
theorem T0g {mx:Bool}{x y z:PV}(h:mnmx mx x y=some z){lm:Nat->Nat}{u v:Value}(hu:Rep w lm x u)(hv:Rep w lm y v):∃ r,(mm2 mx u v).run P w= .ok r w/\Rep w lm z r:=by
 unfold mnmx at h
 split at h
 · simp at h; subst h
   rw[Ta6 hu,Ta6 hv]
   refine⟨_,?_,.sc _⟩
   cases mx<;> simp[mm2,Builtin.max2,Builtin.min2]
 · simp at h
theorem Tsr {mx:Bool}{lm:Nat->Nat}:∀ {l:List PV} {us:List Value} {x z:PV} {u:Value},mnmxs mx x l=some z->Rep w lm x u->RepL w lm l us->∃ r,(us.foldlM (mm2 mx) u).run P w= .ok r w/\Rep w lm z r
 | [],_,x,z,u,h,hu,.nil=>by simp only[mnmxs,oIE]at h; subst h; exact⟨u,by simp,hu⟩
 | y::l,_,x,z,u,h,hu,.cons (v:=v) (vs:=vs) hv hl=>by
  simp only[mnmxs]at h
  cases h1:mnmx mx x y with
  | none=>rw[h1]at h; simp at h
  | some q =>
   rw[h1]at h
   obtain⟨r,hr,hrep⟩:=T0g (P:=P) h1 hu hv
   obtain⟨r',hr',hrep'⟩:=Tsr h hrep hl
   exact⟨r',by simp only[List.foldlM_cons,Sem.run_bind,hr,Result.andThen_ok,hr'],hrep'⟩
theorem Ty9 (S:Sim base w0 lm0 N g a w s){mx:Bool}{xs:List Operand}{ts:Array TypeId}{ys:List X}{call:Call}{d:Nat}{e:Eff}(ho:o.op= .call {callee:= .builtin (if mx then .max else .min),args:=xs.toArray,argTypes:=ts})(hx:okXs xs ys=true)(he:eff call s d (.mm mx ys)=some e):EffOK P base w0 lm0 N g a w s o e:=by
 simp only[eff]at he
 cases hv:evs s ys with
 | none=>rw[hv]at he; simp at he
 | some vs =>
  rw[hv]at he
  dsimp only at he
  have hr:=Ta1 S hx hv
  split at he
  · rename_i z zs hf
    cases hm:mnmxs mx z zs with
    | none=>rw[hm]at he; simp[uns]at he
    | some q =>
     rw[hm]at he
     simp only[uns,oIE]at he
     subst he
     obtain⟨lm',S',r',T',_⟩:=Tcb S (fun d=>Fz.refl _) hr hf
     cases hxs:xs.map a.eval with
     | nil=>rw[hxs]at r'; cases r'
     | cons u us =>
      rw[hxs]at r'
      cases r' with
      | cons h1 h2 =>
       obtain⟨r,hrun,hrep⟩:=Tsr (P:=P) hm h1 h2
       refine⟨r,w,⟨lm',g.v⟩,.inl ?_,S',hrep⟩
       cases mx
       · simp only[mm2,Bool.false_eq_true,if_false]at hrun ho
         simp[execOp,ho,resolve,invoke,builtin,hxs,Builtin.min_,hrun]
       · simp only[mm2,if_true]at hrun ho
         simp[execOp,ho,resolve,invoke,builtin,hxs,Builtin.max_,hrun]
  · simp at he
def okFs (P:Program):Nat->List Nat->List Field->Bool
 | _,[],[]=>true
 | i, k :: ks, f :: fs => decide (f.offset = i) && !(f.name == "_") && (match k, P.underlying f.type with | 0, some (.int _) => true | 1, some .bool => true | 2, some .string => true | _, _ => false) && okFs P (i + 1) ks fs
 | _,_,_=>false
theorem Tle {k:Nat}{ks:List Nat}{l m:List PV}{r:Bool}(h:eqCells (k::ks) l m=some r) :
 (k=0/\∃ kk p l' q m' r',l= .sc (.int kk p)::l'/\m= .sc (.int kk q)::m'/\eqCells ks l' m'=some r'/\r= ((p == q)&&r')) ∨
 (k=1/\∃ p l' q m' r',l= .sc (.bool p)::l'/\m= .sc (.bool q)::m'/\eqCells ks l' m'=some r'/\r= ((p == q)&&r')) ∨
 (k=2/\∃ p l' q m' r',l= .sc (.string p)::l'/\m= .sc (.string q)::m'/\eqCells ks l' m'=some r'/\r= ((p == q)&&r')):=by
 unfold eqCells at h
 split at h
 · simp_all
 · rename_i heq
   simp only[List.cons.injEq]at heq
   obtain⟨rfl,rfl⟩:=heq
   split at h
   · rename_i hkk
     subst hkk
     split at h
     · rename_i hm
       simp at h
       exact .inl ⟨rfl,_,_,_,_,_,_,rfl,rfl,hm,h.symm⟩
     · simp at h
   · simp at h
 · rename_i heq
   simp only[List.cons.injEq]at heq
   obtain⟨rfl,rfl⟩:=heq
   split at h
   · rename_i hm
     simp at h
     exact .inr (.inl ⟨rfl,_,_,_,_,_,rfl,rfl,hm,h.symm⟩)
   · simp at h
 · rename_i heq
   simp only[List.cons.injEq]at heq
   obtain⟨rfl,rfl⟩:=heq
   split at h
   · rename_i hm
     simp at h
     exact .inr (.inr ⟨rfl,_,_,_,_,_,rfl,rfl,hm,h.symm⟩)
   · simp at h
 · simp at h
theorem Tss {d:Nat}{cs cs':List Value}{lm:Nat->Nat}:∀(fs:List Field) (ks:List Nat) (i:Nat) (l m:List PV) (r:Bool),okFs P i ks fs=true->eqCells ks l m=some r->RepL w lm l (cs.drop i)->RepL w lm m (cs'.drop i)-> (Op.eqFields (d+1) cs.toArray cs'.toArray fs).run P w= .ok r w
 | [],[],i,l,m,r,hf,he,h1,h2=>by
  cases l<;> cases m<;> simp[eqCells]at he
  subst he; simp[Op.eqFields]
 | [],_::_,i,l,m,r,hf,he,h1,h2=>by simp[okFs]at hf
 | _::_,[],i,l,m,r,hf,he,h1,h2=>by simp[okFs]at hf
 | f ::fs,k::ks,i,l,m,r,hf,he,h1,h2=>by
  simp only[okFs,Bool.and_eq_true,decide_eq_true_eq]at hf
  obtain⟨⟨⟨hoff,hn⟩,hk⟩,hf⟩:=hf
  have hn' : f.name ≠ "_" := by simpa using hn
  have fin:∀ x y l' m' b r',l=x::l'->m=y::m'-> (∀ u v,Rep w lm x u->Rep w lm y v-> (Op.equalIn (d+1) f.type u v).run P w= .ok b w)->eqCells ks l' m'=some r'->r= (b&&r')-> (∃ q,P.underlying f.type=some q/\ (∀ fs,q≠ .struct fs)/\∀ n e,q≠ .array n e)-> (Op.eqFields (d+1) cs.toArray cs'.toArray (f::fs)).run P w= .ok r w:=by
   rintro x y l' m' b r' rfl rfl hb hm rfl ⟨q,hq,q1,q2⟩
   obtain⟨u,hu,ru⟩:=h1.get 0 x rfl
   obtain⟨v,hv,rv⟩:=h2.get 0 y rfl
   rw[List.getElem?_drop,Nat.add_zero]at hu hv
   have t1:RepL w lm l' (cs.drop (i+1)):=by simpa using h1.drop 1
   have t2:RepL w lm m' (cs'.drop (i+1)):=by simpa using h2.drop 1
   have ha:aggT P f.type=some false:=by
    unfold aggT
    rw[hq]
    cases q<;> first | rfl | exact absurd rfl (q1 _) | exact absurd rfl (q2 _ _)
   have p1:=Te4 (P:=P) (w:=w) ha hu
   have p2:=Te4 (P:=P) (w:=w) ha hv
   have ih:=Tss (d:=d) (cs:=cs) (cs':=cs') fs ks (i+1) l' m' r' hf hm t1 t2
   rw[Op.eqFields,if_pos hn']
   simp only[hoff,Sem.run_bind,p1,p2,hb u v ru rv,Result.andThen_ok]
   cases b
   · simp
   · simpa using ih
  rcases Tle he with⟨rfl,kk,p,l',q,m',r',rfl,rfl,hm,rfl⟩ | ⟨rfl,p,l',q,m',r',rfl,rfl,hm,rfl⟩ | ⟨rfl,p,l',q,m',r',rfl,rfl,hm,rfl⟩
  all_goals
   cases hq:P.underlying f.type with
   | none=>rw[hq]at hk; simp at hk
   | some z =>
    rw[hq]at hk
    cases z<;> simp at hk
    refine fin _ _ _ _ _ r' rfl rfl (fun u v hu hv=> ?_) hm rfl ⟨_,hq,by simp,by simp⟩
    rw[Ta6 hu,Ta6 hv]
    first
     | exact run_equalIn_int w d _ _ _ _ _ hq
     | exact run_equalIn_bool' w d _ _ _ hq
     | (rw[run_equalIn_string w d _ _ _ hq,beq_toListBytes])
theorem Twr (S:Sim base w0 lm0 N g a w s){ne:Bool}{ks:List Nat}{op:BinOp}(hop:op=if ne then .neq else .eql){t ty:TypeId}{fs:Array Field}{x1 x2:Operand}{y1 y2:X}{call:Call}{d:Nat}{e:Eff}(ho:o.op= .binOp op t x1 x2 ty)(ht:P.underlying t=some (.struct fs))(hfs:okFs P 0 ks fs.toList=true)(hst:P.stoodInHeld t=false)(hgt:P.eqGuardType P.depth t=false)
 (hx1:okX x1 y1=true) (hx2:okX x2 y2=true) (he:eff call s d (.eqst ne ks y1 y2)=some e):EffOK P base w0 lm0 N g a w s o e:=by
 simp only[eff]at he
 split at he
 · rename_i l m hv1 hv2
   cases hc:eqCells ks l m with
   | none=>rw[hc]at he; simp at he
   | some r =>
    rw[hc]at he
    simp only[oIE]at he
    subst he
    obtain⟨us,hu,hl,_⟩:=Tit (ev_p S hx1 hv1)
    obtain⟨vs,hv,hm,_⟩:=Tit (ev_p S hx2 hv2)
    have hq: (Op.equal t (.agg us.toArray) (.agg vs.toArray)).run P w= .ok r w:=by
     have hfo:P.fieldsOf t=fs:=by simp[Program.fieldsOf,ht]
     have h1:=run_equalIn_struct (P:=P) w 9999 t us.toArray vs.toArray (by rw[hfo]; exact ht) hst
     rw[hfo,Tss (d:=9998) fs.toList ks 0 l m r hfs hc hl hm]at h1
     exact h1
    refine EffOK.pure S (u:= .bool (if ne then !r else r)) ?_ (.sc _)
    cases ne<;> subst hop<;> simp[execOp,ho,hu,hv,eqGuard,binOp,hq,hgt]
 · simp at he
theorem Toe {lm:Nat->Nat}:∀ {ys:List (List PV)} {bs:List UInt8} {vs:List Value},eff.bytesL ys=some bs->RepL w lm ys.flatten vs->∃ ns:List Int,vs=ns.map (Value.int .u8)/\bs=ns.map fun n=>UInt8.ofNat n.toNat
 | [],bs,vs,h,hr=>by
  simp only[eff.bytesL,oIE]at h
  subst h
  cases hr
  exact⟨[],rfl,rfl⟩
 | y ::ys,bs,vs,h,hr=>by
  unfold eff.bytesL at h
  split at h
  · simp_all
  · rename_i n l heq
    simp only[List.cons.injEq]at heq
    obtain⟨rfl,rfl⟩:=heq
    cases hb:eff.bytesL ys with
    | none=>rw[hb]at h; simp at h
    | some b =>
     rw[hb]at h
     simp at h
     subst h
     rw[List.flatten_cons]at hr
     cases hr with
     | cons h1 h2 =>
      rename_i v vs
      obtain⟨ns,rfl,rfl⟩:=Toe hb h2
      exact⟨n::ns,by rw[Ta6 h1]; rfl,rfl⟩
  · simp at h
theorem Tiw:∀(ns:List Int) (l:List UInt8),ns.foldl (fun r n=>r.push (UInt8.ofNat n.toNat)) (⟨l.toArray⟩:ByteArray)= ⟨(l++ns.map fun n=>UInt8.ofNat n.toNat).toArray⟩
 | [],l=>by simp
 | n::ns,l=>by
  have: (⟨l.toArray⟩:ByteArray).push (UInt8.ofNat n.toNat)= ⟨(l++ [UInt8.ofNat n.toNat]).toArray⟩:=by
   simp[ByteArray.push]
  rw[List.foldl_cons,this,Tiw ns]
  simp
theorem Teo (S:Sim base w0 lm0 N g a w s) {v:SV} {u:Value} {k:Nat} {ys:List (List PV)} (hr:SRep w g (get s.h) v u) (he:elems s.h v=some (k,ys)) :
 ∃ ad cap,u= .slice ad ys.length cap/\ys.length<=cap/\ (ys= []∨ (0<k/\ (∀ c∈ys,c.length=k)/\∃ b o vs,ad=some ⟨b,o,none⟩/\RepL w g.lm ys.flatten vs/\ (∀ j u,vs[j]?=some u->w.cell? ⟨b,o+j,none⟩=some u)/\∀ u∈vs,u.oneCell'=true)):=by
 have ofMem:∀ {b of vs},Mem w g.lm b of vs-> (∀ j u,vs[j]?=some u->w.cell? ⟨b,of+j,none⟩=some u)/\∀ u∈vs,u.oneCell'=true:=by
  intro b of vs hm
  refine⟨fun j u h=> (hm j u h).1,fun u hu=> ?_⟩
  obtain⟨j,hj,e⟩:=List.getElem_of_mem hu
  exact(hm j u (by rw[List.getElem?_eq_getElem hj,e])).2.2
 cases v with
 | p z =>
  cases z with
  | sl k' l =>
   simp only[elems,oIE,Prod.mk.injEq]at he
   obtain⟨rfl,rfl⟩:=he
   obtain⟨ad,cap,hu,hc,hl⟩:=Tiu hr
   refine⟨ad,cap,hu,hc,?_⟩
   rcases hl with h | ⟨h0,hk,b,of,vs,e,hrl,hm⟩
   · exact .inl h
   · exact .inr ⟨h0,hk,b,of,vs,e,hrl,(ofMem hm).1,(ofMem hm).2⟩
  | _=>simp[elems]at he
 | xs k' l =>
  simp only[elems,oIE,Prod.mk.injEq]at he
  obtain⟨rfl,rfl⟩:=he
  obtain⟨ad,hu,h0,hk,hl⟩:=hr
  refine⟨ad,_,hu,Nat.le_refl _,?_⟩
  rcases hl with h | ⟨b,of,vs,e,hrl,hm⟩
  · exact .inl h
  · exact .inr ⟨h0,hk,b,of,vs,e,hrl,(ofMem hm).1,(ofMem hm).2⟩
 | ms d off len =>
  simp only[elems]at he
  cases hd:get s.h d with
  | none=>rw[hd]at he; simp at he
  | some ob =>
   cases ob<;> rw[hd]at he<;> first | (simp at he; done) | skip
   rename_i e' k' fz l
   dsimp only at he
   split at he
   case isFalse=>simp at he
   rename_i hle
   simp only[oIE,Prod.mk.injEq]at he
   obtain⟨rfl,rfl⟩:=he
   have hll:=Te2 l hle
   obtain⟨ad,cap,hu,hc⟩:=Tdi S hr (n:=len) (by simp[svLen,hd])
   refine⟨ad,cap,by rw[hll]; exact hu,by rw[hll]; exact hc,?_⟩
   obtain⟨h0,hk,⟨xs,h3,h4,h5⟩,h6⟩:=S.ob d _ hd
   by_cases hz:len=0
   · left; subst hz; simp
   · right
     have hb:∃ b,blk (g.v d)=some b/\ad=some ⟨b,off*k',none⟩:=by
      simp only[SRep,hd]at hr
      obtain⟨_,hr⟩:=hr
      rcases hr with⟨rfl,rfl,hu'⟩ | ⟨_,ad',cap',hu',_,hz'⟩
      · rcases h3.2 with⟨hv0,h0'⟩ | ⟨b,cap'',cur,hv0,_⟩
        · omega
        · rw[hu,hv0]at hu'
          simp only[Value.slice.injEq]at hu'
          exact⟨b,by rw[hv0]; rfl,by rw[hu'.1]; simp⟩
      · rw[hu]at hu'
        simp only[Value.slice.injEq]at hu'
        rcases hz' with hz' | ⟨b,hb,e⟩
        · exact absurd hz' hz
        · exact⟨b,hb,by rw[hu'.1]; exact e⟩
     obtain⟨b,hb,had⟩:=hb
     have hfl: ((l.drop off).take len).flatten= (l.flatten.drop (off*k')).take (len*k'):=by
      rw[Tat off hk,Tbz len (fun c hc=>hk c (List.mem_of_mem_drop hc))]
     have hrl:= (h4.drop (off*k')).take (len*k')
     rw[← hfl]at hrl
     refine⟨h0,fun c hc=>hk c (List.mem_of_mem_drop (List.mem_of_mem_take hc)),b,_,_,had,hrl,fun j u hu=> ?_,fun u hu=>h5 u (List.mem_of_mem_drop (List.mem_of_mem_take hu))⟩
     rw[List.getElem?_take]at hu
     split at hu
     · rw[List.getElem?_drop]at hu; exact Ta5 h3 hb hu
     · simp at hu
 | _=>simp[elems]at he
theorem T0h (S:Sim base w0 lm0 N g a w s) {t1 t2 el:TypeId} {x:Operand} {y:X} {call:Call} {d:Nat} {e:Eff} (ho:o.op= .convert t1 t2 x) (h1:P.underlying t1=some (.slice el)) (h2:P.underlying t2=some .string) (h3:P.underlying el=some (.int .u8)) (hx:okX x y=true)
 (he:eff call s d (.b2s y)=some e):EffOK P base w0 lm0 N g a w s o e:=by
 simp only[eff]at he
 cases hv:y.ev s with
 | none=>rw[hv]at he; simp at he
 | some v =>
  rw[hv]at he
  dsimp only at he
  cases hel:elems s.h v with
  | none=>rw[hel]at he; simp at he
  | some q =>
   obtain⟨k,ys⟩:=q
   rw[hel]at he
   dsimp only at he
   simp only[eff.bytesOf]at he
   cases hb:eff.bytesL ys with
   | none=>rw[hb]at he; simp at he
   | some bs =>
    rw[hb]at he
    simp at he
    subst he
    obtain⟨ad,cap,hu,hc,hl⟩:=Teo S (Tag S hx hv) hel
    have hrun:∀(r:ByteArray),(Conv.bytesToString (a.eval x)).run P w= .ok (.string r) w-> (execOp a.eval o).run P w= .ok (.value (.string r)) w:=by
     intro r hr
     rw[hu]at hr
     simp[execOp,ho,hu,convert,run_underlying h1,run_underlying h2,run_underlying h3,hr]
    rcases hl with rfl | ⟨h0,hk,b,of,vs,rfl,hrl,hm,h5⟩
    · simp[eff.bytesL]at hb
      subst hb
      refine EffOK.pure S (u:= .string ⟨#[]⟩) (hrun _ ?_) (.sc _)
      rw[hu]
      cases ad with
      | none=>rfl
      | some ad=>exact run_bytesToString w ad 0 cap [] rfl
    · obtain⟨ns,rfl,rfl⟩:=Toe hb hrl
      have hlen:ns.length=ys.length:=by
       have h6:=hrl.length
       rw[Tap hk]at h6
       simp at h6
       cases ys with
       | nil=>simp at h6; simp[← h6]
       | cons z ys =>
        have hk1:k=1:=by
         unfold eff.bytesL at hb
         split at hb
         · simp_all
         · rename_i heq
           simp only[List.cons.injEq]at heq
           obtain⟨rfl,rfl⟩:=heq
           exact(hk _ (List.mem_cons_self ..)).symm
         · simp at hb
        subst hk1
        simpa using h6.symm
      refine EffOK.pure S (u:= .string ⟨(ns.map fun(n:Int)=>UInt8.ofNat n.toNat).toArray⟩) (hrun _ ?_) (.sc _)
      rw[hu]
      have h7:=run_loadCells_list (P:=P) w ⟨b,of,none⟩ (ns.map (Value.int .u8)) (fun j v h=>by rw[add_n]; exact hm j v h)
      rw[List.length_map,hlen]at h7
      rw[run_bytesToString (P:=P) w ⟨b,of,none⟩ ys.length cap ns h7]
      have h8:=Tiw ns []
      simp only[List.nil_append]at h8
      rw[← h8]
      rfl
end
end Go.Proofs.YtjpibniecllafaaGreat.AM
end
