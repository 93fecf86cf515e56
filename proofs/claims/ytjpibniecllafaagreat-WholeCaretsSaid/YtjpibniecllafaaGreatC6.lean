/- Made by pack.py: AM19, AM20, AM21, AM22, AMP. No condition but what each says. -/
import Derived.Test.YtjpibniecllafaaGreatC5
import Derived.Orders
set_option linter.unusedSimpArgs false
set_option linter.unusedVariables false
set_option maxHeartbeats 16000000
section
namespace Go.Proofs.YtjpibniecllafaaGreat.AM
open Go Go.RowKit
def Eqv (s s':St):Prop:= (∀ n,get s.t n=get s'.t n)/\s.h=s'.h
theorem Eqv.refl (s:St):Eqv s s:= ⟨fun _=>rfl,rfl⟩
theorem Eqv.symm {s s':St}(h:Eqv s s'):Eqv s' s:= ⟨fun n=> (h.1 n).symm,h.2.symm⟩
theorem Eqv.trans {a b c:St}(h:Eqv a b)(k:Eqv b c):Eqv a c:= ⟨fun n=> (h.1 n).trans (k.1 n),h.2.trans k.2⟩
theorem Eqv.ev {s s':St}(h:Eqv s s')(x:X):x.ev s=x.ev s':=by
 cases x with
 | t n=>exact h.1 n
 | c v=>rfl
 | f n=>rfl
structure WF (s:St):Prop where
 t:∀ n v d,get s.t n=some v->v.ref d=true->get s.h d≠none
 h:∀ x o d,get s.h x=some o->o.ref d=true->get s.h d≠none
theorem Tzd {v:SV}{d:Nat}(h:v.id?=some d):v.ref d=true:=by
 cases v<;> simp[SV.id?,SV.ref]at h ⊢<;> exact h
def pre (call:Call)(o:AOper)(s:St):Option Eff :=
 match o.g with
 | none=>eff call s (o.d.getD 0) o.o
 | some (g,w)=>match get s.t g with
  | some v=>match v with
   | .p (.sc (.bool b))=>if b=w then eff call s (o.d.getD 0) o.o else some ⟨undefS,[]⟩
   | .p (.sc (.tuple _))=>some ⟨undefS,[]⟩
   | _=>none
  | none=>none
def app (o:AOper)(s:St)(e:Eff):St:= ⟨puts s.t o.d e.v,putAll s.h e.hs⟩
theorem Tdo (call:Call) (o:AOper) (s:St):step call o s= (pre call o s).map (app o s):=by
  unfold step pre app
  cases o.g with
  | none=>cases eff call s (o.d.getD 0) o.o<;> rfl
  | some q =>
    obtain⟨g,w⟩:=q
    dsimp only
    cases get s.t g with
    | none=>rfl
    | some v =>
      cases v with
      | p y =>
        cases y with
        | sc x =>
          cases x
          all_goals
            dsimp only
            first
            | rfl
            | (split
               · cases eff call s (o.d.getD 0) o.o<;> rfl
               · rfl)
        | _=>rfl
      | _=>rfl
def X.slot:X->Option Nat | .t n=>some n | _=>none
def AOper.reads (o:AOper):List Nat:=o.o.xs.filterMap X.slot++ (match o.g with | some (g,_)=> [g] | none=> [])
theorem Tm3 {s s':St}{x:X}(h:∀ n,x.slot=some n->get s.t n=get s'.t n):x.ev s=x.ev s':=by
 cases x with
 | t n=>exact h n rfl
 | c v=>rfl
 | f n=>rfl
theorem Tcy {s:St}(hw:WF s){x:X}{v:SV}{d:Nat}(hv:x.ev s=some v)(hd:v.ref d=true):get s.h d≠none:=by
 cases x with
 | t n=>exact hw.t n v d hv hd
 | c u=>cases u<;> simp only[X.ev]at hv<;> first | (simp at hv; done) | (obtain rfl:=oIj hv; simp[SV.ref]at hd)
 | f n=>simp only[X.ev]at hv; obtain rfl:=oIj hv; simp[SV.ref]at hd
theorem ev_id {s:St}(hw:WF s){x:X}{v:SV}{d:Nat}(hv:x.ev s=some v)(hd:v.id?=some d):get s.h d≠none:=Tcy hw hv (Tzd hd)
def cand (d c:Nat):Prop:=d<100000/\∃ j,j<8/\c=d+j*100000
def HsOK (h:List (Nat×Ob))(d:Nat)(hs:List (Nat×Ob)):Prop :=
 ∀ q∈hs,(∃ e k fz l,get h q.1=some (.row e k fz l)/\q.2= .row e k true l)∨ (get h q.1=none/\cand d q.1)
theorem Thm {h:List (Nat×Ob)}:∀ {n d id:Nat},newIdN h n d=some id->∃ j,j<n/\id=d+j*100000
 | 0,d,id,e=>by simp[newIdN]at e
 | n+1,d,id,e=>by
  unfold newIdN at e
  split at e
  · obtain rfl:=oIj e
    exact⟨0,by omega,by omega⟩
  · obtain⟨j,h1,h2⟩:=Thm e
    exact⟨j+1,by omega,by omega⟩
theorem Ti6 {h:List (Nat×Ob)}{d id:Nat}(e:newId h d=some id):get h id=none/\cand d id:=by
 refine⟨Tay e,?_⟩
 unfold newId at e
 split at e
 · rename_i hd; exact⟨hd,Thm e⟩
 · simp at e
theorem Too {α:Type} {d e:Nat} (x y:α) (h:d≠e):∀ l:List (Nat×α),put (put l d x) e y=put (put l e y) d x
 | []=>by
  simp only[put]
  by_cases c:d<e
  · rw[if_neg h,if_neg (by omega),if_neg (Ne.symm h),if_pos c]
  · rw[if_neg h,if_pos (by omega),if_neg (Ne.symm h),if_neg c]
 | (k, u) ::l=>by
  have ih:=Too x y h l
  by_cases c1:k=d
  · subst c1
    by_cases c2:e<k
    · simp[put,h,Ne.symm h,c2]
      omega
    · simp[put,h,c2]
  · by_cases c2:k=e
    · subst c2
      by_cases c3:d<k
      · simp[put,c1,Ne.symm c1,c3]
        omega
      · simp[put,c1,c3]
    · by_cases c3:d<k
      · by_cases c4:e<k
        · by_cases c5:d<e
          · simp[put,c1,c2,c3,c4,h,Ne.symm h,c5]
            omega
          · have c6:e<d:=by omega
            simp[put,c1,c2,c3,c4,h,Ne.symm h,c6]
            omega
        · have c7:¬ e<d:=by omega
          simp[put,c1,c2,c3,c4,h,Ne.symm h,c7]
      · by_cases c4:e<k
        · have c7:¬ d<e:=by omega
          simp[put,c1,c2,c3,c4,h,Ne.symm h,c7]
        · simp[put,c1,c2,c3,c4,ih]
theorem Tj5 {α:Type}{d:Nat}(x y:α):∀ l:List (Nat×α),put (put l d x) d y=put l d y
 | []=>by simp[put]
 | (k,u)::l=>by
  by_cases c1:k=d
  · simp[put,c1]
  · by_cases c3:d<k
    · simp[put,c1,c3]
    · simp[put,c1,c3,Tj5 x y l]
theorem Tfv {d:Nat}{x:Ob}:∀(A h:List (Nat×Ob)),(∀ q∈A,q.1=d->q.2=x)->putAll (put h d x) A=put (putAll h A) d x
 | [],h,_=>rfl
 | (e,y)::A,h,hA=>by
  rw[putAll,putAll]
  by_cases c:d=e
  · subst c
    have:y=x:=hA (d,y) (by simp) rfl
    subst this
    rw[Tj5,Tfv A h fun q hq=>hA q (by simp[hq]),Tj5]
  · rw[Too x y c,Tfv A _ fun q hq=>hA q (by simp[hq])]
theorem Tdp:∀(A B h:List (Nat×Ob)),(∀ q∈A,∀ r∈B,q.1=r.1->q.2=r.2)->putAll (putAll h A) B=putAll (putAll h B) A
 | [],B,h,_=>rfl
 | (d,x)::A,B,h,hc=>by
  rw[putAll,Tdp A B _ fun q hq=>hc q (by simp[hq]),Tfv B h fun q hq e=> (hc (d,x) (by simp) q hq e.symm).symm]
  rfl
theorem Tgf {h:List (Nat×Ob)} {v:SV} {x:PV} {fr:List (Nat×Ob)} (he:frz h v=some (x,fr)) (d:Nat):HsOK h d fr:=by
 cases v with
 | p y=>simp only[frz,oIE,Prod.mk.injEq]at he; rw[← he.2]; intro q hq; simp at hq
 | xs k l=>simp only[frz,oIE,Prod.mk.injEq]at he; rw[← he.2]; intro q hq; simp at hq
 | ms d' off len =>
  simp only[frz]at he
  split at he
  · rename_i e k fz l hd
    split at he
    · simp only[oIE,Prod.mk.injEq]at he
      rw[← he.2]
      intro q hq
      simp at hq
      subst hq
      exact .inl ⟨e,k,fz,l,hd,rfl⟩
    · simp at he
  · simp at he
 | mp d' i j =>
  simp only[frz]at he
  split at he
  · rename_i e k fz l hd
    split at he
    · split at he
      · simp only[oIE,Prod.mk.injEq]at he
        rw[← he.2]
        intro q hq
        simp at hq
        subst hq
        exact .inl ⟨e,k,fz,l,hd,rfl⟩
      · simp at he
    · simp at he
  · simp at he
 | mo d=>simp[frz]at he
 | sst l=>simp[frz]at he
 | stu l=>simp[frz]at he
 | fnv f l=>simp[frz]at he
theorem HsOK.append {h:List (Nat×Ob)}{d:Nat}{a b:List (Nat×Ob)}(ha:HsOK h d a)(hb:HsOK h d b):HsOK h d (a++b):=fun q hq=> (List.mem_append.1 hq).elim (ha q) (hb q)
theorem HsOK.nil {h:List (Nat×Ob)}{d:Nat}:HsOK h d []:=fun q hq=>by simp at hq
theorem HsOK.new {h:List (Nat×Ob)}{d id:Nat}(e:newId h d=some id)(o:Ob):HsOK h d [(id,o)]:=fun q hq=>by
 simp at hq; subst hq; exact .inr (Ti6 e)
theorem Tdq {h:List (Nat×Ob)}(d:Nat):∀ {vs:List SV} {xs:List PV} {fr:List (Nat×Ob)},frzs h vs=some (xs,fr)->HsOK h d fr
 | [],xs,fr,he=>by simp only[frzs,oIE,Prod.mk.injEq]at he; rw[← he.2]; exact .nil
 | v::vs,xs,fr,he=>by
  obtain⟨x,f1,ys,f2,h1,h2,h3⟩:=Tsq he
  simp only[Prod.mk.injEq]at h3
  rw[h3.2]
  exact(Tgf h1 d).append (Tdq d h2)
theorem T02 {h fr:List (Nat×Ob)}{d:Nat}{r:Ret}{e:Eff}(hf:HsOK h d fr)(he:ret1 h fr d r=some e):HsOK h d e.hs:=by
 cases r with
 | shr v hh=>simp[ret1]at he
 | shn v hh=>simp[ret1]at he
 | sb k T e1=>simp[ret1]at he
 | val x=>simp only[ret1,oIE]at he; subst he; exact hf
 | own e' k l =>
  simp only[ret1]at he
  split at he
  · rename_i id hid
    simp only[oIE]at he
    subst he
    exact hf.append (.new hid _)
  · simp at he
 | deep e' k l =>
  simp only[ret1]at he
  split at he
  · split at he
    · rename_i id hid
      simp only[oIE]at he
      subst he
      exact hf.append (.new hid _)
    · simp at he
  · simp at he
theorem Txe {h fr:List (Nat×Ob)}{d:Nat}{r:Ret}{e:Eff}(hf:HsOK h d fr)(he:ret1d h fr d r=some e):HsOK h d e.hs:=by
 cases r with
 | shr v hh=>simp[ret1d]at he
 | shn v hh=>simp[ret1d]at he
 | sb k T e1=>simp[ret1d]at he
 | val x=>simp[ret1d]at he
 | own e' k l=>simp[ret1d]at he
 | deep e' k l =>
  simp only[ret1d]at he
  split at he
  · rename_i id hid
    simp only[oIE]at he
    subst he
    exact hf.append (.new hid _)
  · simp at he
theorem Ttb {s:St}{call:Call}{d:Nat}{o:AOp}(ho:o.hard=false){e:Eff}(he:eff call s d o=some e):HsOK s.h d e.hs:=by
  cases o<;> first | (simp[AOp.hard]at ho; done) | skip
  all_goals
    simp only[eff,uns]at he
    repeat' split at he
    all_goals
      first
      | (simp at he; done)
      | (simp only[oIE]at he; subst he
         first
         | exact .nil
         | exact HsOK.new ‹newId _ _=some _› _
         | exact Tgf ‹frz _ _=some _› d
         | exact Tdq d ‹frzs _ _=some _›
         | exact(Tgf ‹frz _ _=some _› d).append (HsOK.new ‹newId _ _=some _› _)
         | exact(Tdq d ‹frzs _ _=some _›).append (HsOK.new ‹newId _ _=some _› _))
      | exact T02 (Tdq d ‹frzs _ _=some _›) he
      | exact Txe (Tdq d ‹frzs _ _=some _›) he
theorem Ta9 (h:List (Nat×Ob)):∀(l:List (Nat×Ob)) (d:Nat),get (putAll h l) d= (match get l.reverse d with | some o=>some o | none=>get h d)
 | [],d=>by simp[putAll,get]
 | (c,o)::l,d=>by
  have hap:∀(a b:List (Nat×Ob)) (d:Nat),get (a++b) d= (match get a d with | some o=>some o | none=>get b d):=by
   intro a
   induction a with
   | nil=>intro b d; simp[get]
   | cons q a ih =>
    intro b d
    obtain⟨q1,q2⟩:=q
    simp only[List.cons_append,get]
    split
    · rfl
    · exact ih b d
  rw[putAll,Ta9 _ l d,List.reverse_cons,hap]
  cases get l.reverse d with
  | some x=>rfl
  | none =>
   simp only[get]
   rw[Tbf]
   split<;> rfl
theorem Taw {h:List (Nat×Ob)}(l:List (Nat×Ob)){d:Nat}(hd:get h d≠none):get (putAll h l) d≠none:=by
 rw[Ta9]
 split
 · simp
 · exact hd
theorem Tbi {l:List (Nat×Ob)}{d:Nat}{o:Ob}(h:get l.reverse d=some o): (d,o)∈l:=by simpa using Tdm h
theorem Tbr {h l:List (Nat×Ob)}{d:Nat}{o:Ob}(hm: (d,o)∈l):get (putAll h l) d≠none:=by
 rw[Ta9]
 split
 · simp
 · rename_i hn
   have:∀(l:List (Nat×Ob)),(d,o)∈l->get l d≠none:=by
    intro l
    induction l with
    | nil=>intro h; simp at h
    | cons q l ih =>
     intro h
     obtain⟨q1,q2⟩:=q
     simp only[get]
     split
     · simp
     · rename_i hne
       rcases List.mem_cons.1 h with h | h
       · simp at h; exact absurd h.1.symm hne
       · exact ih h
   exact absurd hn (this _ (by simpa using hm))
theorem T03 {h:List (Nat×Ob)}{d:Nat}{hs:List (Nat×Ob)}(hh:HsOK h d hs){c:Nat}(hc:get h c≠none):Fz (get h c) (get (putAll h hs) c):=by
 rw[Ta9]
 split
 · rename_i o ho
   rcases hh _ (Tbi ho)with⟨e,k,fz,l,h1,h2⟩ | ⟨h1,_⟩
   · dsimp only at h1 h2; rw[h1,h2]; exact⟨rfl,rfl,rfl⟩
   · exact absurd h1 hc
 · exact Fz.refl _
theorem Tll {h:List (Nat×Ob)}{d:Nat}{hs:List (Nat×Ob)}(hh:HsOK h d hs){c:Nat}(hc:¬ cand d c):get h c=none↔get (putAll h hs) c=none:=by
 constructor
 · intro hn
   rw[Ta9]
   split
   · rename_i o ho
     rcases hh _ (Tbi ho)with⟨e,k,fz,l,h1,h2⟩ | ⟨_,h1⟩
     · rw[h1]at hn; simp at hn
     · exact absurd h1 hc
   · exact hn
 · intro hn
   cases hg:get h c with
   | none=>rfl
   | some x=>exact absurd hn (Taw hs (by rw[hg]; simp))
def noGr (hs:List (Nat×Ob)):Bool:=hs.all fun q=> !q.2.isGr
theorem Top {hs:List (Nat×Ob)}(h:noGr hs=true):∀ q∈hs,∀ d,q.2.ref d=false:=fun q hq d=>by
 have:=List.all_eq_true.1 h q hq
 obtain⟨n,o⟩:=q
 cases o<;> first | rfl | (simp[Ob.isGr]at this)
theorem Tze {h hs:List (Nat×Ob)}{d:Nat}(hh:HsOK h d hs)(h2:HsOK h (d+1) hs):noGr hs=true:=by
 refine List.all_eq_true.2 fun q hq=> ?_
 rcases hh q hq with⟨_,_,_,_,_,e⟩ | ⟨_,_,j,_,e⟩
 · rw[e]; rfl
 · rcases h2 q hq with⟨_,_,_,_,_,e'⟩ | ⟨_,_,j',_,e'⟩
   · rw[e']; rfl
   · omega
theorem Toq {h:List (Nat×Ob)}{v:SV}{x:PV}{fr:List (Nat×Ob)}(he:frz h v=some (x,fr)):noGr fr=true:=Tze (Tgf he 0) (Tgf he 1)
theorem Teq {h:List (Nat×Ob)}{vs:List SV}{xs:List PV}{fr:List (Nat×Ob)}(he:frzs h vs=some (xs,fr)):noGr fr=true:=Tze (Tdq 0 he) (Tdq 1 he)
theorem Tm4 {h fr:List (Nat×Ob)}{d:Nat}{r:Ret}{e:Eff}(hf:noGr fr=true)(he:ret1 h fr d r=some e):noGr e.hs=true:=by
 have one:∀ id o,o.isGr=false->noGr (fr++ [(id,o)])=true:=fun id o ho=>by
  unfold noGr at hf ⊢
  rw[List.all_append,hf]
  simp[ho]
 cases r with
 | shr v hh=>simp[ret1]at he
 | shn v hh=>simp[ret1]at he
 | sb k T e1=>simp[ret1]at he
 | val x=>simp only[ret1,oIE]at he; subst he; exact hf
 | own e' k l =>
  simp only[ret1]at he
  split at he
  · simp only[oIE]at he; subst he; exact one _ _ rfl
  · simp at he
 | deep e' k l =>
  simp only[ret1]at he
  split at he
  · split at he
    · simp only[oIE]at he; subst he; exact one _ _ rfl
    · simp at he
  · simp at he
theorem Txf {h fr:List (Nat×Ob)}{d:Nat}{r:Ret}{e:Eff}(hf:noGr fr=true)(he:ret1d h fr d r=some e):noGr e.hs=true:=by
 have one:∀ id o,o.isGr=false->noGr (fr++ [(id,o)])=true:=fun id o ho=>by
  unfold noGr at hf ⊢
  rw[List.all_append,hf]
  simp[ho]
 cases r with
 | shr v hh=>simp[ret1d]at he
 | shn v hh=>simp[ret1d]at he
 | sb k T e1=>simp[ret1d]at he
 | val x=>simp[ret1d]at he
 | own e' k l=>simp[ret1d]at he
 | deep e' k l =>
  simp only[ret1d]at he
  split at he
  · simp only[oIE]at he; subst he; exact one _ _ rfl
  · simp at he
structure RefE (s:St) (e:Eff):Prop where
 v:∀ d,e.v.ref d=true->get (putAll s.h e.hs) d≠none
 h:∀ q∈e.hs,∀ d,q.2.ref d=true->get (putAll s.h e.hs) d≠none
theorem RefE.ng {s:St}{e:Eff}(hv:∀ d,e.v.ref d=true->get (putAll s.h e.hs) d≠none)(hn:noGr e.hs=true):RefE s e:= ⟨hv,fun q hq d hd=>by rw[Top hn q hq d]at hd; simp at hd⟩
theorem Tj6 {s:St}{h0 fr:List (Nat×Ob)}{d:Nat}{r:Ret}{e:Eff}(he:ret1 h0 fr d r=some e):∀ d',e.v.ref d'=true->get (putAll s.h e.hs) d'≠none:=by
 intro d' hd
 have r0:∀ fr id o n,e= ⟨.ms id 0 n,fr++ [(id,o)]⟩->get (putAll s.h e.hs) d'≠none:=by
  rintro fr id o n rfl
  simp only[SV.ref,beq_iff_eq]at hd
  subst hd
  exact Tbr (List.mem_append_right _ (List.mem_singleton_self _))
 cases r with
 | shr v hh=>simp[ret1]at he
 | shn v hh=>simp[ret1]at he
 | sb k T e1=>simp[ret1]at he
 | val x=>simp only[ret1,oIE]at he; subst he; simp[SV.ref]at hd
 | own e' k l =>
  simp only[ret1]at he
  split at he
  · exact r0 _ _ _ _ (oIj he).symm
  · simp at he
 | deep e' k l =>
  simp only[ret1]at he
  split at he
  · split at he
    · exact r0 _ _ _ _ (oIj he).symm
    · simp at he
  · simp at he
theorem Ttc {s:St}{h0 fr:List (Nat×Ob)}{d:Nat}{r:Ret}{e:Eff}(he:ret1d h0 fr d r=some e):∀ d',e.v.ref d'=true->get (putAll s.h e.hs) d'≠none:=by
 intro d' hd
 have r0:∀ fr id o n,e= ⟨.ms id 0 n,fr++ [(id,o)]⟩->get (putAll s.h e.hs) d'≠none:=by
  rintro fr id o n rfl
  simp only[SV.ref,beq_iff_eq]at hd
  subst hd
  exact Tbr (List.mem_append_right _ (List.mem_singleton_self _))
 cases r with
 | shr v hh=>simp[ret1d]at he
 | shn v hh=>simp[ret1d]at he
 | sb k T e1=>simp[ret1d]at he
 | val x=>simp[ret1d]at he
 | own e' k l=>simp[ret1d]at he
 | deep e' k l =>
  simp only[ret1d]at he
  split at he
  · exact r0 _ _ _ _ (oIj he).symm
  · simp at he
theorem Tfw {s:St}(hw:WF s):∀ {l:List X} {vs:List SV},evs s l=some vs->∀ v∈vs,∀ d,v.ref d=true->get s.h d≠none:=fun {l vs} h v hv d hd=>by
 obtain⟨x,_,hx⟩:=Tm2 h v hv
 exact Tcy hw hx hd
theorem Ttd:∀ {vs:List SV} {l:List RV},rvs vs=some l->∀ d,(l.any (·.ref d))=true->∃ v∈vs,v.ref d=true
 | [],l,h,d,hd=>by simp only[rvs,oIE]at h; subst h; simp at hd
 | v::vs,l,h,d,hd=>by
  simp only[rvs]at h
  split at h
  case h_2=>simp at h
  rename_i x hx
  split at h
  case h_2=>simp at h
  rename_i xs hxs
  obtain rfl:=oIj h
  simp only[List.any_cons,Bool.or_eq_true]at hd
  rcases hd with hd | hd
  · refine⟨v,by simp,?_⟩
    rw[SV.rv_sv hx]
    cases x<;> first | (simp[RV.ref,RV.sv,SV.ref]at hd; done) | simpa[RV.ref,RV.sv,SV.ref]using hd
  · obtain⟨u,hu,h2⟩:=Ttd hxs d hd
    exact⟨u,by simp[hu],h2⟩
theorem Tfx {v:SV}{c:List RV}(h:rcells v=some c){d:Nat}(hd: (c.any (·.ref d))=true):v.ref d=true:=by
 have pl:∀ l:List PV,((l.map RV.p).any (·.ref d))=true->False:=fun l hl=>by
  obtain⟨r,hr,h2⟩:=List.any_eq_true.1 hl
  obtain⟨x,_,rfl⟩:=List.mem_map.1 hr
  simp[RV.ref]at h2
 cases v<;> simp only[rcells]at h
 · split at h
   · obtain rfl:=oIj h
     exact(pl _ hd).elim
   · simp at h
 · simp at h
 all_goals first | (simp at h; done) | (obtain rfl:=oIj h; simpa[SV.ref,RV.ref]using hd)
theorem Tlm:∀ {ps:List (Nat×Nat×List RV)} {z l:List RV},fillQ z ps=some l->∀ r∈l,r∈z∨∃ q∈ps,r∈q.2.2
 | [],z,l,h,r,hr=>by simp only[fillQ,oIE]at h; subst h; exact .inl hr
 | (off,n,c)::ps,z,l,h,r,hr=>by
  simp only[fillQ]at h
  split at h
  case isFalse=>simp at h
  rcases Tlm h r hr with h1 | ⟨q,h1,h2⟩
  · simp only[List.mem_append]at h1
    rcases h1 with(h1 | h1) | h1
    · exact .inl (List.mem_of_mem_take h1)
    · exact .inr ⟨(off,n,c),by simp,h1⟩
    · exact .inl (List.mem_of_mem_drop h1)
  · exact .inr ⟨q,by simp[h1],h2⟩
theorem Thn:∀ {vs:List SV} {cs:List (List RV)},rcellss vs=some cs->∀ c∈cs,∀ d,(c.any (·.ref d))=true->∃ v∈vs,v.ref d=true
 | [],cs,h,c,hc,d,hd=>by simp only[rcellss,oIE]at h; subst h; simp at hc
 | v::vs,cs,h,c,hc,d,hd=>by
  simp only[rcellss]at h
  split at h
  case h_2=>simp at h
  rename_i x hx
  split at h
  case h_2=>simp at h
  rename_i xs hxs
  obtain rfl:=oIj h
  rcases List.mem_cons.1 hc with rfl | hc
  · exact⟨v,by simp,Tfx hx hd⟩
  · obtain⟨u,hu,h2⟩:=Thn hxs c hc d hd
    exact⟨u,by simp[hu],h2⟩
theorem Tor {vs:List SV}{cs:List (List RV)}{z:List PV}{ps:List (Nat×Nat×X)}{l:List RV}(hc:rcellss vs=some cs)(hf:fillQ (z.map .p) ((ps.zip cs).map fun q=> (q.1.1,q.1.2.1,q.2))=some l){d:Nat}(hd: (l.any (·.ref d))=true):∃ v∈vs,v.ref d=true:=by
 obtain⟨r,hr,h2⟩:=List.any_eq_true.1 hd
 rcases Tlm hf r hr with h1 | ⟨q,h1,h3⟩
 · obtain⟨x,_,rfl⟩:=List.mem_map.1 h1
   simp[RV.ref]at h2
 · obtain⟨p,hp,rfl⟩:=List.mem_map.1 h1
   exact Thn hc p.2 (List.of_mem_zip (by simpa using hp)).2 d (List.any_eq_true.2 ⟨r,h3,h2⟩)
theorem Tos {h:List (Nat×Ob)}:∀ {vs xs:List SV} {fr:List (Nat×Ob)},fzvs h vs=some (xs,fr)->noGr fr=true/\∀ v∈xs,∀ d,v.ref d=true->∃ u∈vs,u.ref d=true
 | [],xs,fr,he=>by simp only[fzvs,oIE,Prod.mk.injEq]at he; obtain⟨rfl,rfl⟩:=he; exact⟨rfl,fun v hv=>by simp at hv⟩
 | v::vs,xs,fr,he=>by
  simp only[fzvs]at he
  split at he
  case h_2=>simp at he
  rename_i x f1 h1
  split at he
  case h_2=>simp at he
  rename_i ys f2 h2
  simp only[oIE,Prod.mk.injEq]at he
  obtain⟨rfl,rfl⟩:=he
  obtain⟨q1,q2⟩:=Tos h2
  have one:noGr f1=true/\∀ d,x.ref d=true->v.ref d=true:=by
   cases v with
   | ms d off n =>
    simp only[fzv]at h1
    split at h1
    · split at h1
      case h_2=>simp at h1
      rename_i y fr' hfz
      simp only[oIE,Prod.mk.injEq]at h1
      obtain⟨rfl,rfl⟩:=h1
      exact⟨Toq hfz,fun d hd=>by simp[SV.ref]at hd⟩
    · simp only[oIE,Prod.mk.injEq]at h1
      obtain⟨rfl,rfl⟩:=h1
      exact⟨rfl,fun d hd=>hd⟩
   | _=>simp only[fzv,oIE,Prod.mk.injEq]at h1; obtain⟨rfl,rfl⟩:=h1; exact⟨rfl,fun d hd=>hd⟩
  refine⟨by unfold noGr at *; rw[List.all_append,one.1,q1]; rfl,fun u hu d hd=> ?_⟩
  rcases List.mem_cons.1 hu with rfl | hu
  · exact⟨v,by simp,one.2 d hd⟩
  · obtain⟨z,hz,h3⟩:=q2 u hu d hd
    exact⟨z,by simp[hz],h3⟩
theorem Tte {h:List (Nat×Ob)}{h':List (Nat×Ob)}{v:SV}{B:List Nat}{i0 n:Nat}(hk:okK h' i0=true)(hn:n=i0+h'.length)(hv: (v.refs.all fun i=>decide (i<n))=true)(hc:closeB h' n=true)(hB:∀ i,i<i0->get h (at0 B i)≠none) :
 (∀ d,(v.mapr (at0 B)).ref d=true->get (putAll h (h'.map fun q=> (at0 B q.1,q.2.mapr (at0 B)))) d≠none)/\∀ q∈h'.map (fun q=> (at0 B q.1,q.2.mapr (at0 B))),∀ d,q.2.ref d=true->get (putAll h (h'.map fun q=> (at0 B q.1,q.2.mapr (at0 B)))) d≠none:=by
 have key:∀ i,i<n->get (putAll h (h'.map fun q=> (at0 B q.1,q.2.mapr (at0 B)))) (at0 B i)≠none:=fun i hi=>by
  by_cases h0:i<i0
  · exact Taw _ (hB i h0)
  · have:= (Tcn hk i).2 (by omega)
    cases hg:get h' i with
    | none=>exact absurd hg this
    | some o=>exact Tbr (o:=o.mapr (at0 B)) (List.mem_map.2 ⟨(i,o),Tdm hg,rfl⟩)
 constructor
 · intro d hd
   have hd':=SV.mem_refs.2 hd
   have many:∀ l:List RV,d∈ (l.map (·.mapr (at0 B))).filterMap RV.id?->∃ e∈l.filterMap RV.id?,at0 B e=d:=fun l hl=>by
    obtain⟨r,hr,h2⟩:=List.mem_filterMap.1 hl
    obtain⟨r0,hr0,rfl⟩:=List.mem_map.1 hr
    obtain⟨e,he,h3⟩:=RV.mapr_ref h2
    exact⟨e,List.mem_filterMap.2 ⟨r0,hr0,he⟩,h3⟩
   obtain⟨e,he,rfl⟩:∃ e∈v.refs,at0 B e=d:=by
    cases v with
    | p x=>simp[SV.mapr,SV.refs]at hd'
    | xs k l=>simp[SV.mapr,SV.refs]at hd'
    | ms d0 o n=>exact⟨d0,by simp[SV.refs],by simpa[SV.mapr,SV.refs,eq_comm]using hd'⟩
    | mp d0 i j=>exact⟨d0,by simp[SV.refs],by simpa[SV.mapr,SV.refs,eq_comm]using hd'⟩
    | mo d0=>exact⟨d0,by simp[SV.refs],by simpa[SV.mapr,SV.refs,eq_comm]using hd'⟩
    | sst l=>exact many l hd'
    | stu l=>exact many l hd'
    | fnv f l=>exact many l hd'
   exact key e (by simpa using List.all_eq_true.1 hv e he)
 · intro q hq d hd
   obtain⟨q0,hq0,rfl⟩:=List.mem_map.1 hq
   have hcq:=List.all_eq_true.1 hc q0 hq0
   have hd':=Ob.mem_refs.2 hd
   obtain⟨x,o⟩:=q0
   cases o with
   | gr e k l =>
    simp only[Ob.mapr,Ob.refs,Tco]at hd'
    obtain⟨r,hr,h2⟩:=List.mem_filterMap.1 hd'
    obtain⟨r0,hr0,rfl⟩:=List.mem_map.1 hr
    obtain⟨e0,he,rfl⟩:=RV.mapr_ref h2
    exact key e0 (by simpa using List.all_eq_true.1 hcq e0 (List.mem_filterMap.2 ⟨r0,hr0,he⟩))
   | _=>simp[Ob.mapr,Ob.refs]at hd'
theorem Tm5 {s:St}{call:Call}{d:Nat}{f:FuncId}{vs:List SV}{e:Eff}(he:inlE call s d f vs=some e):RefE s e:=by
 unfold inlE at he
 split at he
 case h_2=>simp at he
 rename_i R hR
 split at he
 case h_2=>simp at he
 rename_i r hc
 cases r with
 | shr v h' =>
  rw[Tfb]at he
  by_cases hcond:R.length<=h'.length/\2000+50*d+ (h'.length-R.length)<=100000/\okK h' 0=true/\ (v.refs.all fun i=>decide (i<h'.length))=true/\closeB h' h'.length=true
  case neg=>rw[if_neg hcond]at he; simp at he
  rw[if_pos hcond]at he
  obtain⟨c1,c2,c3,c4,c5⟩:=hcond
  split at he
  case h_2=>simp at he
  rename_i fr hfr
  simp only[oIE]at he
  subst he
  obtain⟨q1,q2⟩:=Tte (h:=s.h) (B:=R++fr) c3 (by omega) c4 c5 (fun i hi=>by omega)
  exact⟨q1,q2⟩
 | _=>exact nomatch (show(none:Option Eff)=some e from he)
theorem Ttf {s:St}{call:Call}{d:Nat}{f:FuncId}{vs:List SV}{cl:Bool}{e:Eff}(he:innE call s d f vs cl=some e):RefE s e:=by
 unfold innE at he
 split at he
 case h_2=>simp at he
 rename_i R hR
 split at he
 case isFalse=>simp at he
 split at he
 case h_2=>simp at he
 rename_i r hc
 cases r with
 | shn v h' =>
  rw[Tdl]at he
  by_cases hcond:2000+50*d+h'.length<=100000/\okK h' R.length=true/\ (v.refs.all fun i=>decide (i<R.length+h'.length))=true/\closeB h' (R.length+h'.length)=true
  case neg=>rw[if_neg hcond]at he; simp at he
  rw[if_pos hcond]at he
  obtain⟨c2,c3,c4,c5⟩:=hcond
  split at he
  case h_2=>simp at he
  rename_i fr hfr
  simp only[oIE]at he
  subst he
  obtain⟨_,_,hRx,_⟩:=Tbv hR
  obtain⟨q1,q2⟩:=Tte (h:=s.h) (B:=R++fr) c3 rfl c4 c5 (fun i hi=>by
   rw[Te7 hi]
   obtain⟨o,ho,_⟩:=hRx _ (Ta7 hi)
   rw[ho]; simp)
  exact⟨q1,q2⟩
 | _=>exact nomatch (show(none:Option Eff)=some e from he)
theorem Tho {l:List (List RV)}{i j:Nat}{c:RV}(h:cellR l i j=some c){e k d:Nat}(hd:c.sv.ref d=true): (Ob.gr e k l).ref d=true:=by
 unfold cellR at h
 split at h
 · rename_i r hr
   refine List.any_eq_true.2 ⟨r,List.mem_of_getElem? hr,List.any_eq_true.2 ⟨c,List.mem_of_getElem? h,?_⟩⟩
   cases c<;> first | (simp[RV.ref,RV.sv,SV.ref]at hd; done) | simpa[RV.ref,RV.sv,SV.ref]using hd
 · simp at h
theorem Txg {l:List (List RV)}{i:Nat}{c:List RV}(h:l[i]?=some c){e k d m n:Nat}(hd: (((c.drop m).take n).any (·.ref d))=true): (Ob.gr e k l).ref d=true:=by
 obtain⟨r,hr,h2⟩:=List.any_eq_true.1 hd
 exact List.any_eq_true.2 ⟨c,List.mem_of_getElem? h,List.any_eq_true.2 ⟨r,List.mem_of_mem_drop (List.mem_of_mem_take hr),h2⟩⟩
theorem Ttg {l:List (List RV)}{i:Nat}{c yc:List RV}(h:l[i]?=some c){e k d m n:Nat}(hd: (Ob.gr e k (l.set i (c.take m++yc++c.drop n))).ref d=true): (Ob.gr e k l).ref d=true∨ (yc.any (·.ref d))=true:=by
 obtain⟨x,hx,h2⟩:=List.any_eq_true.1 hd
 rcases List.mem_or_eq_of_mem_set hx with hx | rfl
 · exact .inl (List.any_eq_true.2 ⟨x,hx,h2⟩)
 · obtain⟨r,hr,h3⟩:=List.any_eq_true.1 h2
   simp only[List.mem_append]at hr
   rcases hr with(hr | hr) | hr
   · exact .inl (List.any_eq_true.2 ⟨c,List.mem_of_getElem? h,List.any_eq_true.2 ⟨r,List.mem_of_mem_take hr,h3⟩⟩)
   · exact .inr (List.any_eq_true.2 ⟨r,hr,h3⟩)
   · exact .inl (List.any_eq_true.2 ⟨c,List.mem_of_getElem? h,List.any_eq_true.2 ⟨r,List.mem_of_mem_drop hr,h3⟩⟩)
theorem T04 {s:St} (hw:WF s) {call:Call} {d:Nat} {o:AOp} {e:Eff} (he:eff call s d o=some e):RefE s e:=by
  cases o
  case inl f l =>
    simp only[eff]at he
    split at he
    · exact Tm5 he
    · simp at he
  case inn f l =>
    simp only[eff]at he
    split at he
    · exact Ttf he
    · simp at he
  case inq f l =>
    simp only[eff]at he
    split at he
    · exact Ttf he
    · simp at he
  case cvs x l =>
    simp only[eff]at he
    split at he
    · exact Tm5 he
    · exact Tm5 he
    · simp at he
  case mkr f l =>
    simp only[eff]at he
    split at he
    case h_2=>simp at he
    rename_i vs hv
    split at he
    case h_2=>simp at he
    rename_i r hr
    simp only[oIE]at he
    subst he
    refine .ng (fun d hd=> ?_) rfl
    obtain⟨v,h1,h2⟩:=Ttd hr d hd
    exact Tfw hw hv v h1 d h2
  case exr x i =>
    simp only[eff]at he
    split at he
    · rename_i l hv
      split at he
      case h_2=>simp at he
      rename_i c hc
      split at he
      case isFalse=>simp at he
      simp only[oIE]at he
      subst he
      refine .ng (fun d hd=>Tcy hw hv (List.any_eq_true.2 ⟨c,List.mem_of_getElem? hc,?_⟩)) rfl
      cases c<;> first | (simp[RV.ref,RV.sv,SV.ref]at hd; done) | simpa[RV.ref,RV.sv,SV.ref]using hd
    · split at he
      case h_2=>simp at he
      simp only[oIE]at he
      subst he
      exact .ng (fun d hd=>by simp[SV.ref]at hd) rfl
    · simp at he
  case ldr x =>
    simp only[eff]at he
    split at he
    case h_2=>simp at he
    split at he
    case h_2=>simp at he
    rename_i hd0
    split at he
    case h_2=>simp at he
    rename_i c hc
    split at he
    case isFalse=>simp at he
    simp only[oIE]at he
    subst he
    exact .ng (fun d hd=>hw.h _ _ d hd0 (Tho hc hd)) rfl
  case ldrn e1 k x =>
    simp only[eff]at he
    split at he
    case h_2=>simp at he
    split at he
    case h_2=>simp at he
    rename_i hd0
    split at he
    case h_2=>simp at he
    rename_i c hc
    split at he
    · split at he
      case h_2=>simp at he
      simp only[oIE]at he
      subst he
      refine .ng (fun d hd=> ?_) rfl
      simp only[SV.ref,beq_iff_eq]at hd
      subst hd
      exact Tbr (List.mem_singleton_self _)
    · split at he
      case isFalse=>simp at he
      simp only[oIE]at he
      subst he
      exact .ng (fun d hd=>hw.h _ _ d hd0 (Tho hc hd)) rfl
  case ldkf ks x =>
    simp only[eff]at he
    repeat' split at he
    all_goals first | (simp at he; done) | (simp only[oIE]at he; subst he; exact .ng (fun d hd=>by simp[SV.ref]at hd) (Teq ‹frzs _ _=some _›))
  case ldkr k x =>
    simp only[eff]at he
    split at he
    case h_2=>simp at he
    split at he
    case h_2=>simp at he
    rename_i hd0
    split at he
    case h_2=>simp at he
    rename_i c hc
    split at he
    case isFalse=>simp at he
    simp only[oIE]at he
    subst he
    exact .ng (fun d hd=>hw.h _ _ d hd0 (Txg hc hd)) rfl
  case bldr z ps =>
    simp only[eff]at he
    split at he
    case h_2=>simp at he
    rename_i vs hv
    split at he
    case isFalse=>simp at he
    split at he
    case h_2=>simp at he
    rename_i cs hcs
    split at he
    case h_2=>simp at he
    rename_i l hl
    simp only[oIE]at he
    subst he
    refine .ng (fun d hd=> ?_) rfl
    obtain⟨v,h1,h2⟩:=Tor hcs hl hd
    exact Tfw hw hv v h1 d h2
  case bldrf z ps =>
    simp only[eff]at he
    split at he
    case h_2=>simp at he
    rename_i vs hv
    split at he
    case h_2=>simp at he
    rename_i vs2 fr hfz
    split at he
    case isFalse=>simp at he
    split at he
    case h_2=>simp at he
    rename_i cs hcs
    split at he
    case h_2=>simp at he
    rename_i l hl
    simp only[oIE]at he
    subst he
    obtain⟨q1,q2⟩:=Tos hfz
    refine .ng (fun d hd=> ?_) q1
    obtain⟨v,h1,h2⟩:=Tor hcs hl hd
    obtain⟨u,h3,h4⟩:=q2 v h1 d h2
    exact Taw _ (Tfw hw hv u h3 d h4)
  case boxr e1 k x =>
    simp only[eff]at he
    split at he
    case h_2=>simp at he
    rename_i v hv
    split at he
    case h_2=>simp at he
    rename_i c hc
    split at he
    case isFalse=>simp at he
    split at he
    case h_2=>simp at he
    rename_i id hid
    simp only[oIE]at he
    subst he
    refine⟨fun d hd=> ?_,fun q hq d hd=> ?_⟩
    · simp only[SV.ref,beq_iff_eq]at hd
      subst hd
      exact Tbr (List.mem_singleton_self _)
    · simp only[List.mem_singleton]at hq
      subst hq
      obtain⟨x1,hx1,h2⟩:=List.any_eq_true.1 hd
      simp only[List.mem_singleton]at hx1
      subst hx1
      exact Taw _ (Tcy hw hv (Tfx hc h2))
  case alr e1 k c =>
    simp only[eff]at he
    split at he
    case h_2=>simp at he
    rename_i id hid
    simp only[oIE]at he
    subst he
    refine⟨fun d hd=> ?_,fun q hq d hd=> ?_⟩
    · simp only[SV.ref,beq_iff_eq]at hd
      subst hd
      exact Tbr (List.mem_singleton_self _)
    · simp only[List.mem_singleton]at hq
      subst hq
      obtain⟨x1,hx1,h2⟩:=List.any_eq_true.1 hd
      simp only[List.mem_singleton]at hx1
      subst hx1
      obtain⟨r,hr,h3⟩:=List.any_eq_true.1 h2
      obtain⟨x,_,rfl⟩:=List.mem_map.1 hr
      simp[RV.ref]at h3
  case stor k a x =>
    simp only[eff]at he
    split at he
    case h_2=>simp at he
    rename_i d' i j v hva hvx
    split at he
    case h_2=>simp at he
    rename_i yc hyc
    split at he
    case isFalse=>simp at he
    split at he
    case h_2=>simp at he
    rename_i e1 k' l hd0
    split at he
    case h_2=>simp at he
    rename_i c hc
    split at he
    case isFalse=>simp at he
    simp only[oIE]at he
    subst he
    refine⟨fun d hd=>by simp[SV.ref,undefS]at hd,fun q hq d hd=> ?_⟩
    simp only[List.mem_singleton]at hq
    subst hq
    refine Taw _ ?_
    rcases Ttg hc hd with h1 | h1
    · exact hw.h _ _ d hd0 h1
    · exact Tcy hw hvx (Tfx hyc h1)
  case storf k a x =>
    simp only[eff]at he
    split at he
    case h_2=>simp at he
    rename_i d' i j v hva hvx
    split at he
    case h_2=>simp at he
    rename_i z fr hfz
    split at he
    case h_2=>simp at he
    rename_i yc hyc
    split at he
    case isFalse=>simp at he
    split at he
    case h_2=>simp at he
    rename_i e1 k' l hd0
    split at he
    case h_2=>simp at he
    rename_i c hc
    split at he
    case isFalse=>simp at he
    simp only[oIE]at he
    subst he
    refine⟨fun d hd=>by simp[SV.ref,undefS]at hd,fun q hq d hd=> ?_⟩
    refine Taw _ ?_
    rcases List.mem_append.1 hq with hq | hq
    · rw[Top (Toq hfz) q hq d]at hd; simp at hd
    · simp only[List.mem_singleton]at hq
      subst hq
      rcases Ttg hc hd with h1 | h1
      · exact hw.h _ _ d hd0 h1
      · obtain⟨r,hr,h3⟩:=List.any_eq_true.1 h1
        obtain⟨x,_,rfl⟩:=List.mem_map.1 hr
        simp[RV.ref]at h3
  case cl f l =>
    simp only[eff]at he
    repeat' split at he
    all_goals first | (simp at he; done) | exact .ng (Tj6 he) (Tm4 (Teq ‹frzs _ _=some _›) he)
  case cv x l =>
    simp only[eff]at he
    repeat' split at he
    all_goals first | (simp at he; done) | exact .ng (Tj6 he) (Tm4 (Teq ‹frzs _ _=some _›) he)
  case inv ty f m x l =>
    simp only[eff]at he
    repeat' split at he
    all_goals first | (simp at he; done) | exact .ng (Tj6 he) (Tm4 (Teq ‹frzs _ _=some _›) he)
  case cld f l =>
    simp only[eff]at he
    repeat' split at he
    all_goals first | (simp at he; done) | exact .ng (Ttc he) (Txf (Teq ‹frzs _ _=some _›) he)
  case mvs x y =>
    simp only[eff]at he
    split at he
    · rename_i v d1 off len hv hy
      split at he
      · split at he
        · simp only[oIE]at he
          subst he
          exact .ng (fun d hd=>Taw _ (Tcy hw hv hd)) rfl
        · simp at he
      · simp at he
    · simp at he
  case sbw f x y =>
    simp only[eff,sbwE]at he
    repeat' split at he
    all_goals first | (simp at he; done) | (simp only[oIE]at he; subst he; exact .ng (fun d hd=>by simp[SV.ref]at hd) rfl)
  case sbs f x =>
    simp only[eff,sbsE]at he
    repeat' split at he
    all_goals first | (simp at he; done) | (simp only[oIE]at he; subst he; exact .ng (fun d hd=>by simp[SV.ref]at hd) rfl)
  all_goals
    simp only[eff,uns]at he
    repeat' split at he
    all_goals
      first
      | (simp at he; done)
      | (simp only[oIE]at he; subst he
         refine .ng (fun d' hd=> ?_) ?_
         · first
           | (simp[SV.ref,undefS]at hd; done)
           | (simp only[SV.ref,beq_iff_eq]at hd; subst hd
              first
              | exact Tbr (List.mem_append_right _ (List.mem_singleton_self _))
              | exact Tbr (List.mem_singleton_self _)
              | exact Tbr (List.mem_cons_of_mem _ (List.mem_singleton_self _))
              | exact Tcy hw ‹X.ev s _=some (.mp _ _ _)› (by simp[SV.ref])
              | exact Tcy hw ‹X.ev s _=some (.ms _ _ _)› (by simp[SV.ref])
              | exact Tcy hw ‹X.ev s _=some _› (by simp[SV.ref]))
           | exact Tcy hw ‹X.ev s _=some _› hd
           | (split at hd<;> exact Tcy hw ‹X.ev s _=some _› hd)
         · first
           | rfl
           | exact Toq ‹frz _ _=some _›
           | exact Teq ‹frzs _ _=some _›
           | (unfold noGr; rw[List.all_append]; rw[show(List.all _ _)=true from Toq ‹frz _ _=some _›]; rfl)
           | (unfold noGr; rw[List.all_append]; rw[show(List.all _ _)=true from Teq ‹frzs _ _=some _›]; rfl))
theorem WF.put {s:St}(hw:WF s){hs:List (Nat×Ob)}(hh:∀ q∈hs,∀ d,q.2.ref d=true->get (putAll s.h hs) d≠none):∀ x o d,get (putAll s.h hs) x=some o->o.ref d=true->get (putAll s.h hs) d≠none:=fun x o d hx hd=>by
 have h1:=hx
 rw[Ta9]at h1
 split at h1
 · rename_i o' ho'
   obtain rfl:=oIj h1
   exact hh _ (Tbi ho') d hd
 · exact Taw _ (hw.h x o d h1 hd)
def AOp.fresh:AOp->Bool
 | .box .. | .boxp .. | .alcp .. | .nl .. | .alloc .. | .bsl .. | .mks .. | .cl .. | .cv .. | .inv .. | .rng .. | .cld .. =>true
 | _=>false
def apartS (a i:AOper):Bool:=match a.d with
 | some d=> !(i.reads.contains d)&& (match i.d with | some e=>e !=d | none=>true)
 | none=>true
def AOp.isInn:AOp->Bool
 | .inn .. | .inq .. =>true
 | _=>false
def AOp.isInc:AOp->Bool
 | .inn .. =>true
 | _=>false
def qpair (a i:AOper):Bool:= (a.o.quiet&& (i.o.quiet|| !i.o.hard||i.o.isInn))|| (a.o.isInc&& !i.o.hard&&decide (i.d.getD 0<2000))
def AOp.isShr:AOp->Bool
 | .inl .. | .inn .. | .inq .. | .cvs .. =>true
 | _=>false
def AOp.isNew:AOp->Bool
 | .alloc .. | .nl .. =>true
 | _=>false
def qpair2 (a i:AOper):Bool:=a.o.isShr&&i.o.isNew&&decide (i.d.getD 0<2000)
def apartH0 (a i:AOper):Bool:=a.o.bare||i.o.bare|| (!a.o.hard&& !i.o.hard&& (!(a.o.fresh&&i.o.fresh)|| (a.d.getD 0 !=i.d.getD 0&&decide (a.d.getD 0<100000)&&decide (i.d.getD 0<100000))))
def apartH (a i:AOper):Bool:=apartH0 a i||qpair a i||qpair i a||qpair2 a i||qpair2 i a
def indep (a i:AOper):Bool:=apartS a i&&apartS i a&&apartH a i
def befs (md:Region.Mode):List Oper->Nat->List Nat->List Nat
 | [],_,acc=>acc
 | o::os,n,acc=>befs md os (n+1) (acc++ [o.after.toList.foldl (fun m e=>if Region.binds md e then m ||| (1 <<< e.on) ||| acc.getD e.on 0 else m) 0])
def backs (md:Region.Mode):List Oper->Nat->Bool
 | [],_=>true
 | o::os,n=> (o.after.toList.all fun e=> !Region.binds md e||decide (e.on<n))&&backs md os (n+1)
def okPair (m:Nat)(i:AOper):List AOper->Nat->Bool
 | [],_=>true
 | a::aos,j=> (m.testBit j||indep a i)&&okPair m i aos (j+1)
def okPairs:List Nat->List AOper->List AOper->Bool
 | m::ms,seen,i::is=>okPair m i seen 0&&okPairs ms (seen++ [i]) is
 | _,_,_=>true
def okOrder (ops:List Oper)(aos:List AOper):Bool:=backs .any ops 0&&okPairs (befs .any ops 0 []) [] aos
def okOps (P:Program)(N:Nat)(ops:Array Oper):List Oper->List AOper->Bool
 | [],[]=>true
 | o::os,a::aos=>okOper P N ops o a&&okOps P N ops os aos
 | _,_=>false
def okRegion (P:Program)(N:Nat)(ops:Array Oper)(aos:List AOper)(draw:Bool):Bool :=
 okOps P N ops ops.toList aos&& (!draw||okOrder ops.toList aos)
def okCode (P:Program)(N:Nat):Go.Code->ACode->Bool
 | .scope x,y=>okCode P N x y
 | .skip,.skip=>true
 | .label _,.skip=>true
 | .region _ ops draw,.reg aos _=>okRegion P N ops aos draw
 | .region _ ops draw,.regf aos _ _=>okRegion P N ops aos draw
 | .seq x y,.seq x' y'=>okCode P N x x'&&okCode P N y y'
 | .cond c x y,.ite c' x' y'=>okX c c'&&okCode P N x x'&&okCode P N y y'
 | .block i x,.blk j x'=>i == j&&okCode P N x x'
 | .loop x,.loop _ x'=>okCode P N x x'
 | .loop x,.loopc _ x'=>okCode P N x x'
 | .exit i,.ex j=>i == j
 | .ret,.ret=>true
 | _,_=>false
def okRes (P:Program):ResultVar->ARes->Bool
 | .tmp n,.t m=>n == m
 | .tmp n,.td m=>n == m
 | .cell n t,.c1 m=>n == m&&decide (aggT P t=some false)
 | .cell n t,.ck m k=>n == m&&decide (aggT P t=some true)&&P.cellsOf t == k&&decide (0<k)
 | _,_=>false
def okRess (P:Program):List ResultVar->List ARes->Bool
 | [],[]=>true
 | x::xs,y::ys=>okRes P x y&&okRess P xs ys
 | _,_=>false
def okFunc (P:Program)(f:FuncId)(fn:AFunc):Bool:=match P.funcs[f]? with
 | some g=> (match g.body with
  | some c=>okCode P g.ntmps c fn.body
  | none => false) && decide (fn.np ≤ g.ntmps) && okRess P g.results.toList fn.rs && !(g.name == "runtime.NumGoroutine") && fn.n == g.ntmps
 | none=>false
end Go.Proofs.YtjpibniecllafaaGreat.AM
end
section
namespace Go.Proofs.YtjpibniecllafaaGreat.AM
open Go Go.RowKit
section
variable {s s':St}{call:Call}
theorem Tcr {o:AOper}{e:Eff}(h:pre call o s=some e):eff call s (o.d.getD 0) o.o=some e∨e= ⟨undefS,[]⟩:=by
 unfold pre at h
 cases hg:o.g with
 | none=>rw[hg]at h; exact .inl h
 | some q =>
  obtain⟨g,w⟩:=q
  rw[hg]at h
  dsimp only at h
  cases hv:get s.t g with
  | none=>rw[hv]at h; simp at h
  | some v =>
   rw[hv]at h
   dsimp only at h
   split at h
   · split at h
     · exact .inl h
     · exact .inr (oIj h).symm
   · exact .inr (oIj h).symm
   · simp at h
theorem Tgo {o:AOper}(hr:∀ n∈o.reads,get s.t n=get s'.t n)(he:eff call s (o.d.getD 0) o.o=eff call s' (o.d.getD 0) o.o):pre call o s=pre call o s':=by
 unfold pre
 cases hg:o.g with
 | none=>exact he
 | some q =>
  obtain⟨g,w⟩:=q
  dsimp only
  rw[hr g (by simp[AOper.reads,hg]),he]
theorem Tm6 {o:AOper}(hr:∀ n∈o.reads,get s.t n=get s'.t n):∀ x∈o.o.xs,x.ev s=x.ev s':=fun x hx =>
 Tm3 fun n hn=>hr n (by
  unfold AOper.reads
  exact List.mem_append_left _ (List.mem_filterMap.2 ⟨x,hx,hn⟩))
theorem Tm7 {t:List (Nat×SV)}{d:Option Nat}{v:SV}{n:Nat}(h:∀ e,d=some e->e≠n):get (puts t d v) n=get t n:=by
 cases d with
 | none=>rfl
 | some e=>exact Tae _ (h e rfl) _
theorem Tfy {a i:AOper}(h:apartS a i=true){t:List (Nat×SV)}{v:SV}:∀ n∈i.reads,get (puts t a.d v) n=get t n:=fun n hn =>
 Tm7 fun e he=>by
  simp only[apartS,he,Bool.and_eq_true,Bool.not_eq_true']at h
  rintro rfl
  simp[hn]at h
def HsF (h:List (Nat×Ob))(hs:List (Nat×Ob)):Prop:=∀ q∈hs,∃ e k fz l,get h q.1=some (.row e k fz l)/\q.2= .row e k true l
theorem HsF.nil {h:List (Nat×Ob)}:HsF h []:=fun q hq=>by simp at hq
theorem HsOK.toF {h:List (Nat×Ob)}{hs:List (Nat×Ob)}(h1:HsOK h 0 hs)(h2:HsOK h 1 hs):HsF h hs:=fun q hq=>by
 rcases h1 q hq with r | ⟨_,r⟩
 · exact r
 · rcases h2 q hq with r' | ⟨_,r'⟩
   · exact r'
   · obtain⟨_,i,_,e1⟩:=r
     obtain⟨_,j,_,e2⟩:=r'
     omega
theorem T05 {h:List (Nat×Ob)}{v:SV}{x:PV}{fr:List (Nat×Ob)}(he:frz h v=some (x,fr)):HsF h fr:= (Tgf he 0).toF (Tgf he 1)
theorem Txh {h:List (Nat×Ob)}{vs:List SV}{xs:List PV}{fr:List (Nat×Ob)}(he:frzs h vs=some (xs,fr)):HsF h fr:= (Tdq 0 he).toF (Tdq 1 he)
theorem Tqr {d:Nat}{o:AOp}(ho:o.hard=false)(hf:o.fresh=false){e:Eff}(he:eff call s d o=some e):HsF s.h e.hs:=by
  cases o<;> first | (simp[AOp.hard]at ho; done) | (simp[AOp.fresh]at hf; done) | skip
  all_goals
    simp only[eff,uns]at he
    repeat' split at he
    all_goals
      first
      | (simp at he; done)
      | (simp only[oIE]at he; subst he
         first
         | exact .nil
         | exact T05 ‹frz _ _=some _›
         | exact Txh ‹frzs _ _=some _›)
theorem Tln {d d':Nat}{o:AOp}(ho:o.hard=false)(hf:o.fresh=false):eff call s d o=eff call s d' o:=by
 cases o<;> first | (simp[AOp.hard]at ho; done) | (simp[AOp.fresh]at hf; done) | rfl
theorem T06 (h h':List (Nat×Ob)):∃ d,∀ j,get h (d+j*100000)=none/\get h' (d+j*100000)=none:=by
 have big:∀(h:List (Nat×Ob)),∃ n,∀ d,n<=d->get h d=none:=by
  intro h
  induction h with
  | nil=>exact⟨0,fun d _=>rfl⟩
  | cons q h ih =>
   obtain⟨n,hn⟩:=ih
   obtain⟨c,o⟩:=q
   refine⟨max n (c+1),fun d hd=> ?_⟩
   simp only[get]
   rw[if_neg (by omega)]
   exact hn d (by omega)
 obtain⟨n,hn⟩:=big h
 obtain⟨m,hm⟩:=big h'
 exact⟨max n m,fun j=> ⟨hn _ (by omega),hm _ (by omega)⟩⟩
theorem Tlo {d:Nat}{o:AOp}(ho:o.hard=false)(hf:o.fresh=false)(hx:∀ x∈o.xs,x.ev s=x.ev s')(hz:∀ x∈o.xs,∀ v,x.ev s=some v->FzV s.h s'.h v):eff call s d o=eff call s' d o:=by
 obtain⟨c,h1⟩:=T06 s.h s'.h
 rw[Tln ho hf (d':=c),Tln (s:=s') ho hf (d':=c)]
 exact Tgn call c o ho hx hz fun j _=> ⟨fun _=> (h1 j).2,fun _=> (h1 j).1⟩
theorem HsF.ok {h hs:List (Nat×Ob)}(hh:HsF h hs)(d:Nat):HsOK h d hs:=fun q hq=> .inl (hh q hq)
theorem HsF.none {h hs:List (Nat×Ob)}(hh:HsF h hs){c:Nat}:get h c=none↔get (putAll h hs) c=none:=by
 constructor
 · intro hn
   rw[Ta9]
   split
   · rename_i o ho
     obtain⟨e,k,fz,l,h1,_⟩:=hh _ (Tbi ho)
     rw[h1]at hn; simp at hn
   · exact hn
 · intro hn
   cases hg:get h c with
   | none=>rfl
   | some x=>exact absurd hn (Taw hs (by rw[hg]; simp))
theorem Thp {o:AOper}(ho:o.o.hard=false){e:Eff}(h:pre call o s=some e):HsOK s.h (o.d.getD 0) e.hs:=by
 rcases Tcr h with h | rfl
 · exact Ttb ho h
 · exact .nil
theorem Tm8 {o:AOper}(ho:o.o.hard=false)(hf:o.o.fresh=false){e:Eff}(h:pre call o s=some e):HsF s.h e.hs:=by
 rcases Tcr h with h | rfl
 · exact Tqr ho hf h
 · exact .nil
theorem Tj7 {o:AOper}(ho:o.o.bare=true){e:Eff}(h:pre call o s=some e):e.hs= []:=by
 rcases Tcr h with h | rfl
 · exact T01 call _ _ ho h
 · rfl
theorem Tth (hw:WF s){a i:AOper}(hs:apartS a i=true)(hh:apartH0 a i=true){ea:Eff}(ha:pre call a s=some ea):pre call i (app a s ea)=pre call i s:=by
 have hr:∀ n∈i.reads,get (app a s ea).t n=get s.t n:=Tfy hs
 refine Tgo hr ?_
 have hx:=Tm6 hr
 by_cases hi:i.o.bare=true
 · exact Txd call _ _ hi hx
 by_cases hb:a.o.bare=true
 · refine Thl call _ _ hx ?_
   simp only[app,Tj7 hb ha,putAll]
 · simp only[apartH0,hb,hi,Bool.false_or,Bool.and_eq_true,Bool.not_eq_true',Bool.or_eq_true,Bool.and_eq_false_iff,bne_iff_ne,ne_eq,decide_eq_true_eq]at hh
   obtain⟨⟨h1,h2⟩,h3⟩:=hh
   have hok:=Thp h1 ha
   have fz:∀ x∈i.o.xs,∀ v,x.ev s=some v->FzV s.h (app a s ea).h v:=fun x hx' v hv d hd=>T03 hok (ev_id hw hv hd)
   have hx':∀ x∈i.o.xs,x.ev s=x.ev (app a s ea):=fun x h=> (hx x h).symm
   by_cases f1:i.o.fresh=true
   · by_cases f2:a.o.fresh=true
     · rcases h3 with h3 | h3
       · rcases h3 with h3 | h3
         · rw[h3]at f2; simp at f2
         · rw[h3]at f1; simp at f1
       · obtain⟨⟨h3,h4⟩,h5⟩:=h3
         exact(Tgn call _ _ h2 hx' fz fun k hk=>Tll hok (by rintro⟨_,j,hj,e1⟩; omega)).symm
     · have hF:=Tm8 h1 (by simpa using f2) ha
       exact(Tgn call _ _ h2 hx' fz fun _ _=>hF.none).symm
   · exact(Tlo h2 (by simpa using f1) hx' fz).symm
theorem Tlp {a i:AOper}(h:apartH0 a i=true):apartH0 i a=true:=by
 simp only[apartH0,Bool.or_eq_true,Bool.and_eq_true,Bool.not_eq_true',Bool.and_eq_false_iff,bne_iff_ne,ne_eq,decide_eq_true_eq]at h ⊢
 rcases h with(h | h) | ⟨⟨h1,h2⟩,h3⟩
 · exact .inl (.inr h)
 · exact .inl (.inl h)
 · refine .inr ⟨⟨h2,h1⟩,?_⟩
   rcases h3 with h3 | ⟨⟨h3,h4⟩,h5⟩
   · exact .inl h3.symm
   · exact .inr ⟨⟨fun e=>h3 e.symm,h5⟩,h4⟩
theorem Txi {a i:AOper} (hh:apartH0 a i=true) {ea ei:Eff} (ha:pre call a s=some ea) (hi:pre call i s=some ei) :
 putAll (putAll s.h ea.hs) ei.hs=putAll (putAll s.h ei.hs) ea.hs:=by
 have key:∀ d o1 o2,(d,o1)∈ei.hs-> (d,o2)∈ea.hs->o1=o2:=by
  intro d o1 o2 m1 m2
  by_cases hb:a.o.bare=true
  · rw[Tj7 hb ha]at m2; simp at m2
  by_cases hc:i.o.bare=true
  · rw[Tj7 hc hi]at m1; simp at m1
  simp only[apartH0,hb,hc,Bool.false_or,Bool.and_eq_true,Bool.not_eq_true',Bool.or_eq_true,Bool.and_eq_false_iff,bne_iff_ne,ne_eq,decide_eq_true_eq]at hh
  obtain⟨⟨q1,q2⟩,q3⟩:=hh
  rcases Thp q2 hi _ m1 with⟨e,k,fz,l,g1,g2⟩ | ⟨g1,g2⟩
  · rcases Thp q1 ha _ m2 with⟨e',k',fz',l',g1',g2'⟩ | ⟨g1',g2'⟩
    · dsimp only at g1 g2 g1' g2'
      rw[g1]at g1'
      simp only[oIE,Ob.row.injEq]at g1'
      rw[g2,g2',g1'.1,g1'.2.1,g1'.2.2.2]
    · dsimp only at g1 g1'; rw[g1]at g1'; simp at g1'
  · rcases Thp q1 ha _ m2 with⟨e',k',fz',l',g1',g2'⟩ | ⟨g1',g2'⟩
    · dsimp only at g1 g1'; rw[g1]at g1'; simp at g1'
    · exfalso
      dsimp only at g1 g2 g1' g2'
      rcases q3 with(q3 | q3) | ⟨⟨q3,q4⟩,q5⟩
      · obtain⟨_,_,_,_,r,_⟩:=Tm8 q1 q3 ha _ m2
        dsimp only at r; rw[g1]at r; simp at r
      · obtain⟨_,_,_,_,r,_⟩:=Tm8 q2 q3 hi _ m1
        dsimp only at r; rw[g1]at r; simp at r
      · obtain⟨_,i1,_,e1⟩:=g2
        obtain⟨_,i2,_,e2⟩:=g2'
        omega
 exact Tdp _ _ _ fun q hq r hr e=> (key q.1 r.2 q.2 (by rw[e]; exact hr) hq).symm
def HsN (h hs:List (Nat×Ob)):Prop:=∀ q∈hs,(∃ e k fz l,get h q.1=some (.row e k fz l)/\q.2= .row e k true l)∨get h q.1=none
theorem HsOK.n {h hs:List (Nat×Ob)}{d:Nat}(hh:HsOK h d hs):HsN h hs:=fun q hq=> (hh q hq).imp id fun h=>h.1
theorem HsN.fz {h hs:List (Nat×Ob)}(hh:HsN h hs){c:Nat}(hc:get h c≠none):Fz (get h c) (get (putAll h hs) c):=by
 rw[Ta9]
 split
 · rename_i o ho
   rcases hh _ (Tbi ho)with⟨e,k,fz,l,h1,h2⟩ | h1
   · dsimp only at h1 h2; rw[h1,h2]; exact⟨rfl,rfl,rfl⟩
   · exact absurd h1 hc
 · exact Fz.refl _
theorem Tot {d:Nat}{o:AOp}(ho:o.quiet=true){e:Eff}(he:eff call s d o=some e):e.hs= []:=by
 cases o<;> first | (simp[AOp.quiet]at ho; done) | skip
 all_goals
  simp only[eff]at he
  repeat' split at he
  all_goals first | (simp at he; done) | (simp only[oIE]at he; subst he; rfl)
theorem Thq {v:SV}(h:∀ d,v.ref d=true->get s.h d≠none):thereV s.h v=true:=by
 unfold thereV
 cases hid:v.id? with
 | none=>rfl
 | some d =>
  cases hg:get s.h d with
  | none=>exact absurd hg (h d (Tzd hid))
  | some o=>dsimp only; rw[hg]; rfl
theorem Tqs (hw:WF s) (hf:∀ c,get s.h c≠none->Fz (get s.h c) (get s'.h c)) {d:Nat} {o:AOp} (ho:o.quiet=true) (hx:∀ x∈o.xs,x.ev s=x.ev s'):eff call s d o=eff call s' d o:=by
  have hmp:∀ {x:X} {d' i j:Nat},x.ev s=some (.mp d' i j)->Fz (get s.h d') (get s'.h d'):=fun {x d' i j} hv=>hf d' (Tcy hw hv (by simp[SV.ref]))
  have cases_:∀ {a b:Option Ob},Fz a b-> (∃ e k l,a=some (.gr e k l)/\b=some (.gr e k l))∨ ((∀ e k l,a≠some (.gr e k l))/\∀ e k l,b≠some (.gr e k l)):=by
    intro a b h
    rcases h.two with⟨e,k,fz,fz',l,rfl,rfl⟩ | ⟨rfl,_⟩
    · exact .inr ⟨fun _ _ _ h=>by simp at h,fun _ _ _ h=>by simp at h⟩
    · cases a with
      | none=>exact .inr ⟨fun _ _ _ h=>by simp at h,fun _ _ _ h=>by simp at h⟩
      | some o=>cases o<;> first | exact .inl ⟨_,_,_,rfl,rfl⟩ | exact .inr ⟨fun _ _ _ h=>by simp at h,fun _ _ _ h=>by simp at h⟩
  have gen:∀ {α:Type} {a b:Option Ob} (F:Nat->Nat->List (List RV)->Option α),Fz a b-> (match a with | some (.gr e k l)=>F e k l | _=>none)= (match b with | some (.gr e k l)=>F e k l | _=>none):=by
    intro α a b F h
    rcases cases_ h with⟨e,k,l,rfl,rfl⟩ | ⟨h1,h2⟩
    · rfl
    · have:∀ {c:Option Ob},(∀ e k l,c≠some (.gr e k l))-> (match c with | some (.gr e k l)=>F e k l | _=>none)=none:=by
        intro c hc
        split
        · rename_i e k l; exact absurd rfl (hc e k l)
        · rfl
      rw[this h1,this h2]
  have th:∀ {c:RV},(∀ d,c.sv.ref d=true->get s.h d≠none)->thereV s.h c.sv=true/\thereV s'.h c.sv=true:=fun {c} hc=>by
    refine⟨Thq hc,Thq (s:=s') fun d hd=> ?_⟩
    have h1:=hc d hd
    have h2:=hf d h1
    intro h3
    rw[h3]at h2
    exact h1 (h2.none_iff.2 rfl)
  cases o<;> first | (simp[AOp.quiet]at ho; done) | skip
  case exr x i =>
    have e1:=hx x (by simp[AOp.xs])
    simp only[eff,← e1]
    cases hv:x.ev s with
    | none=>rfl
    | some v =>
      cases v with
      | stu l =>
        dsimp only
        cases hc:l[i]? with
        | none=>rfl
        | some c =>
          obtain⟨t1,t2⟩:=th (c:=c) fun d hd=>Tcy hw hv (List.any_eq_true.2 ⟨c,List.mem_of_getElem? hc,by cases c<;> first | (simp[RV.ref,RV.sv,SV.ref]at hd; done) | simpa[RV.ref,RV.sv,SV.ref]using hd⟩)
          dsimp only
          rw[t1,t2]
      | p y=>cases y<;> rfl
      | _=>rfl
  case ldr x =>
    have e1:=hx x (by simp[AOp.xs])
    simp only[eff,← e1]
    cases hv:x.ev s with
    | none=>rfl
    | some v =>
      cases v with
      | mp d' i j =>
        dsimp only
        rcases cases_ (hmp hv)with⟨e,k,l,h1,h2⟩ | ⟨h1,h2⟩
        · rw[h1,h2]
          dsimp only
          cases hc:cellR l i j with
          | none=>rfl
          | some c =>
            obtain⟨t1,t2⟩:=th (c:=c) fun d hd=>hw.h _ _ d h1 (Tho hc hd)
            dsimp only
            rw[t1,t2]
        · exact gen (fun e k l=>match cellR l i j with | some c=>if thereV s.h c.sv=true then some (⟨c.sv,[]⟩:Eff)else none | none=>none) (a:=get s.h d') (b:=get s'.h d') (hmp hv) |>.trans (by
            have:∀ {F G:Nat->Nat->List (List RV)->Option Eff},(match get s'.h d' with | some (.gr e k l)=>F e k l | _=>none)= (match get s'.h d' with | some (.gr e k l)=>G e k l | _=>none):=by
              intro F G
              split
              · rename_i e k l hh; exact absurd hh (h2 e k l)
              · rfl
            exact this)
      | _=>rfl
  all_goals
    simp only[eff,AOp.xs,List.mem_cons,List.mem_nil_iff,or_false,forall_eq_or_imp,forall_eq]at hx ⊢
    first
    | (obtain⟨e1,e2⟩:=hx
       simp only[← e1,← e2])
    | simp only[← hx]
  case ldkr k x =>
    cases hv:x.ev s with
    | none=>rfl
    | some v =>
      cases v with
      | mp d' i j=>exact gen (fun _ _ l=>match l[i]? with | some c=>if j+k<=c.length then some (⟨.sst ((c.drop j).take k),[]⟩:Eff)else none | none=>none) (hmp hv)
      | _=>rfl
  case nkr x =>
    cases hv:x.ev s with
    | none=>rfl
    | some v =>
      cases v with
      | mp d' i j=>exact gen (fun _ _ _=>some (⟨.mp d' i j,[]⟩:Eff)) (hmp hv)
      | _=>rfl
  case nlq ne x =>
    cases hv:x.ev s with
    | none=>rfl
    | some v =>
      cases v with
      | mp d' i j=>exact gen (fun _ _ _=>some (⟨.p (.sc (.bool ne)),[]⟩:Eff)) (hmp hv)
      | _=>rfl
  case far x off =>
    cases hv:x.ev s with
    | none=>rfl
    | some v =>
      cases v with
      | mp d' i j=>exact gen (fun _ _ _=>some (⟨.mp d' i (j+off),[]⟩:Eff)) (hmp hv)
      | _=>rfl
  case aar m x i =>
    cases hv:x.ev s with
    | none=>rfl
    | some v =>
      cases v with
      | mp d' i' j =>
        cases i.ev s with
        | none=>rfl
        | some w =>
          dsimp only
          cases natOf w with
          | none=>rfl
          | some n=>exact gen (fun _ _ _=>if n<m then some (⟨.mp d' i' (j+n),[]⟩:Eff)else none) (hmp hv)
      | _=>rfl
theorem Tti {d:Nat}{f:FuncId}{vs:List SV}{cl:Bool}{e:Eff}(he:innE call s d f vs cl=some e):∀ q∈e.hs,get s.h q.1=none/\2000<=q.1 % 100000:=by
 unfold innE at he
 split at he
 case h_2=>simp at he
 rename_i R hR
 split at he
 case isFalse=>simp at he
 split at he
 case h_2=>simp at he
 rename_i r hc
 cases r with
 | shn v h' =>
  rw[Tdl]at he
  by_cases hcond:2000+50*d+h'.length<=100000/\okK h' R.length=true/\ (v.refs.all fun i=>decide (i<R.length+h'.length))=true/\closeB h' (R.length+h'.length)=true
  case neg=>rw[if_neg hcond]at he; simp at he
  rw[if_pos hcond]at he
  obtain⟨c2,c3,c4,c5⟩:=hcond
  split at he
  case h_2=>simp at he
  rename_i fr hfr
  simp only[oIE]at he
  subst he
  obtain⟨f1,f2,f3⟩:=Tfa hfr c2
  intro q hq
  obtain⟨q0,hq0,rfl⟩:=List.mem_map.1 hq
  have hm:=Tfq c3 q0 hq0
  have hmem:at0 (R++fr) q0.1∈fr:=by
   have:at0 (R++fr) q0.1=at0 fr (q0.1-R.length):=by
    unfold at0
    rw[List.getD_eq_getElem?_getD,List.getD_eq_getElem?_getD,List.getElem?_append_right hm.1]
   rw[this]
   exact Ta7 (by omega)
  obtain⟨a1,a2,j,a3,a4,a5⟩:=f3 _ hmem
  exact⟨a1,by dsimp only; omega⟩
 | _=>exact nomatch (show(none:Option Eff)=some e from he)
theorem Tou {d:Nat}{o:AOp}(ho:o.isInn=true){e:Eff}(he:eff call s d o=some e):∀ q∈e.hs,get s.h q.1=none/\2000<=q.1 % 100000:=by
 cases o<;> first | (simp[AOp.isInn]at ho; done) | skip
 all_goals
  simp only[eff]at he
  split at he
  · exact Tti he
  · simp at he
theorem Td7 {h h':List (Nat×Ob)}:∀ {n i:Nat},(∀ c,2000<=c % 100000-> (get h c=none↔get h' c=none))->2000<=i->i+n<=100000->freshs h n i=freshs h' n i
 | 0,i,_,_,_=>rfl
 | n+1,i,hh,h1,h2=>by
  have e1:newIdN h 8 i=newIdN h' 8 i:=Tfu 8 i fun j _=>hh _ (by omega)
  simp only[freshs,e1,Td7 (n:=n) (i:=i+1) hh (by omega) (by omega)]
theorem Tce (hw:WF s)(hf:∀ c,get s.h c≠none->Fz (get s.h c) (get s'.h c)):∀(n:Nat) (todo acc:List Nat),(∀ d∈todo,get s.h d≠none)->reach s.h n todo acc=reach s'.h n todo acc
 | 0,_,_,_=>rfl
 | n+1,[],_,_=>rfl
 | n + 1, d::todo,acc,ht=>by
  simp only[reach]
  split
  · exact Tce hw hf n todo acc fun e he=>ht e (by simp[he])
  · have h0:=ht d (by simp)
    have h1:=hf d h0
    rcases h1.two with⟨e,k,fz,fz',l,h2,h3⟩ | ⟨h2,_⟩
    · rw[h2,h3]
      dsimp only
      have: (Ob.row e k fz l).noPin=true/\ (Ob.row e k fz' l).noPin=true:= ⟨rfl,rfl⟩
      rw[if_pos this.1,if_pos this.2]
      exact Tce hw hf n _ _ fun c hc=>by
       rcases List.mem_append.1 hc with hc | hc
       · exact ht c (by simp[hc])
       · simp[Ob.refs]at hc
    · rw[← h2]
      cases ho:get s.h d with
      | none=>exact absurd ho h0
      | some o =>
       dsimp only
       split
       · exact Tce hw hf n _ _ fun c hc=>by
          rcases List.mem_append.1 hc with hc | hc
          · exact ht c (by simp[hc])
          · exact hw.h d o c ho (Ob.mem_refs.1 hc)
       · rfl
theorem Txj (hw:WF s)(hf:∀ c,get s.h c≠none->Fz (get s.h c) (get s'.h c))(hn:∀ c,2000<=c % 100000-> (get s.h c=none↔get s'.h c=none)){d:Nat}{f:FuncId}{l:List X}(hx:∀ x∈l,x.ev s=x.ev s'):eff call s d (.inn f l)=eff call s' d (.inn f l):=by
 simp only[eff,← Tas hx]
 cases hv:evs s l with
 | none=>rfl
 | some vs =>
  dsimp only
  unfold innE
  have ht:∀ d∈vs.flatMap SV.refs,get s.h d≠none:=fun d hd=>by
   obtain⟨v,h1,h2⟩:=List.mem_flatMap.1 hd
   exact Tfw hw hv v h1 d (SV.mem_refs.1 h2)
  rw[← Tce hw hf 300 _ [] ht]
  cases hR:reach s.h 300 (vs.flatMap SV.refs) []with
  | none=>rfl
  | some R =>
   dsimp only
   obtain⟨_,_,hRx,_⟩:=Tbv hR
   have hRe:∀ d∈R,get s.h d≠none:=fun d hd=>by obtain⟨o,q,_⟩:=hRx d hd; rw[q]; simp
   have hnr:noRow s.h R=noRow s'.h R:=by
    unfold noRow
    apply Bool.eq_iff_iff.2
    rw[List.all_eq_true,List.all_eq_true]
    refine forall_congr' fun d=>forall_congr' fun hd=> ?_
    rcases(hf d (hRe d hd)).two with⟨e,k,fz,fz',l,h2,h3⟩ | ⟨h2,_⟩
    · rw[h2,h3]
    · rw[h2]
   simp only[Bool.not_true,Bool.false_or]
   rw[← hnr]
   by_cases hc:noRow s.h R=true
   · rw[if_pos hc,if_pos hc]
     have hsame:∀ d∈R,get s.h d=get s'.h d:=fun d hd=>by
      have h1:=List.all_eq_true.1 hc d hd
      rcases(hf d (hRe d hd)).two with⟨e,k,fz,fz',l,h2,h3⟩ | ⟨h2,_⟩
      · rw[h2]at h1; simp at h1
      · exact h2
     have hsub:∀(R':List Nat) (i:Nat),(∀ d∈R',get s.h d=get s'.h d)->subH s.h (pos R) R' i=subH s'.h (pos R) R' i:=by
      intro R'
      induction R' with
      | nil=>intro i _; rfl
      | cons d R' ih =>
       intro i hh
       simp only[subH,hh d (by simp)]
       rw[ih (i+1) fun e he=>hh e (by simp[he])]
     rw[hsub R 0 hsame]
     cases hcc:call (f+2000000) [.hp (vs.map (·.mapr (pos R))) (subH s'.h (pos R) R 0)]with
     | none=>rfl
     | some r =>
      dsimp only
      cases r with
      | shn v h' =>
       rw[Tdl,Tdl]
       by_cases hcond:2000+50*d+h'.length<=100000/\okK h' R.length=true/\ (v.refs.all fun i=>decide (i<R.length+h'.length))=true/\closeB h' (R.length+h'.length)=true
       · rw[if_pos hcond,if_pos hcond,Td7 hn (by omega) hcond.1]
       · rw[if_neg hcond,if_neg hcond]
      | _=>rfl
   · rw[if_neg hc,if_neg hc]
theorem Tdy {o:AOper}(ho:o.o.quiet=true){e:Eff}(h:pre call o s=some e):e.hs= []:=by
 rcases Tcr h with h | rfl
 · exact Tot ho h
 · rfl
theorem Tfz {o:AOper}(ho:o.o.isInn=true){e:Eff}(h:pre call o s=some e):∀ q∈e.hs,get s.h q.1=none/\2000<=q.1 % 100000:=by
 rcases Tcr h with h | rfl
 · exact Tou ho h
 · intro q hq; simp at hq
theorem Tlq (hw:WF s){a i:AOper}(hs:apartS a i=true)(hh:qpair a i=true∨qpair i a=true){ea:Eff}(ha:pre call a s=some ea):pre call i (app a s ea)=pre call i s:=by
 have hr:∀ n∈i.reads,get (app a s ea).t n=get s.t n:=Tfy hs
 have hx:=Tm6 hr
 have hx':∀ x∈i.o.xs,x.ev s=x.ev (app a s ea):=fun x h=> (hx x h).symm
 refine Tgo hr ?_
 have byq:HsN s.h ea.hs->i.o.quiet=true->eff call (app a s ea) (i.d.getD 0) i.o=eff call s (i.d.getD 0) i.o:=fun hn hq=> (Tqs hw (fun c hc=>hn.fz hc) hq hx').symm
 have nil:ea.hs= []->eff call (app a s ea) (i.d.getD 0) i.o=eff call s (i.d.getD 0) i.o:=fun he=>Thl call _ _ hx (by simp only[app,he,putAll])
 simp only[qpair,Bool.or_eq_true,Bool.and_eq_true,Bool.not_eq_true',decide_eq_true_eq]at hh
 rcases hh with(⟨q1,_⟩ | ⟨⟨q1,q2⟩,q3⟩) | (⟨q1,q2⟩ | ⟨⟨q1,q2⟩,q3⟩)
 · exact nil (Tdy q1 ha)
 ·
  have ha2:=Tfz (by cases ho:a.o<;> rw[ho]at q1<;> first | rfl | (simp[AOp.isInc]at q1)) ha
  have hn:HsN s.h ea.hs:=fun q hq=> .inr (ha2 q hq).1
  refine(Tgn call _ _ q2 hx' (fun x hx0 v hv d hd=>hn.fz (ev_id hw hv hd)) fun j _=> ?_).symm
  show get s.h _=none↔get (putAll s.h ea.hs) _=none
  constructor
  · intro h0
    rw[Ta9]
    split
    · rename_i o ho
      have:= (ha2 _ (Tbi ho)).2
      dsimp only at this
      omega
    · exact h0
  · intro h0
    cases hg:get s.h (i.d.getD 0+j*100000)with
    | none=>rfl
    | some x=>exact absurd h0 (Taw ea.hs (by rw[hg]; simp))
 ·
  rcases q2 with(q2 | q2) | q2
  · exact nil (Tdy q2 ha)
  · exact byq (Thp q2 ha).n q1
  · exact byq (fun q hq=> .inr (Tfz q2 ha q hq).1) q1
 ·
  have hok:=Thp q2 ha
  cases ho:i.o<;> rw[ho]at q1<;> first | (simp[AOp.isInc]at q1; done) | skip
  rename_i f l
  refine(Txj hw (fun c hc=>hok.n.fz hc) (fun c hc=> ?_) fun x hxx=>hx' x (by rw[ho]; exact hxx)).symm
  refine Tll hok ?_
  rintro⟨_,j,_,e1⟩
  omega
theorem Tov {a i:AOper}(hh:qpair a i=true){ea ei:Eff}(ha:pre call a s=some ea)(hi:pre call i s=some ei) :
 putAll (putAll s.h ea.hs) ei.hs=putAll (putAll s.h ei.hs) ea.hs:=by
 simp only[qpair,Bool.or_eq_true,Bool.and_eq_true,Bool.not_eq_true',decide_eq_true_eq]at hh
 rcases hh with⟨q1,_⟩ | ⟨⟨q1,q2⟩,q3⟩
 · rw[Tdy q1 ha]; rfl
 · have ha2:=Tfz (by cases ho:a.o<;> rw[ho]at q1<;> first | rfl | (simp[AOp.isInc]at q1)) ha
   refine Tdp _ _ _ fun q hq r hr e=> ?_
   exfalso
   obtain⟨a1,a2⟩:=ha2 q hq
   rcases Thp q2 hi r hr with⟨e',k,fz,l,g1,_⟩ | ⟨_,⟨_,j,_,g2⟩⟩
   · rw[← e,a1]at g1; simp at g1
   · rw[e]at a2
     omega
theorem Ttj {R fr:List Nat}{h h':List (Nat×Ob)}{n i0:Nat}(hf:freshs h n i0=some fr)(hi:i0+n<=100000)(h0:2000<=i0){i:Nat}(h1:R.length<=i)(h2:i<R.length+n):get h (at0 (R++fr) i)=none/\2000<=at0 (R++fr) i % 100000:=by
 obtain⟨f1,f2,f3⟩:=Tfa hf hi
 have hmem:at0 (R++fr) i∈fr:=by
  have:at0 (R++fr) i=at0 fr (i-R.length):=by
   unfold at0
   rw[List.getD_eq_getElem?_getD,List.getD_eq_getElem?_getD,List.getElem?_append_right h1]
  rw[this]
  exact Ta7 (by omega)
 obtain⟨a1,a2,j,a3,a4,a5⟩:=f3 _ hmem
 exact⟨a1,by omega⟩
theorem Tj8 {d:Nat}{f:FuncId}{vs:List SV}{e:Eff}(he:inlE call s d f vs=some e):∀ q∈e.hs,get s.h q.1≠none∨2000<=q.1 % 100000:=by
 unfold inlE at he
 split at he
 case h_2=>simp at he
 rename_i R hR
 split at he
 case h_2=>simp at he
 rename_i r hc
 cases r with
 | shr v h' =>
  rw[Tfb]at he
  by_cases hcond:R.length<=h'.length/\2000+50*d+ (h'.length-R.length)<=100000/\okK h' 0=true/\ (v.refs.all fun i=>decide (i<h'.length))=true/\closeB h' h'.length=true
  case neg=>rw[if_neg hcond]at he; simp at he
  rw[if_pos hcond]at he
  obtain⟨c1,c2,c3,c4,c5⟩:=hcond
  split at he
  case h_2=>simp at he
  rename_i fr hfr
  simp only[oIE]at he
  subst he
  obtain⟨_,_,hRx,_⟩:=Tbv hR
  intro q hq
  obtain⟨q0,hq0,rfl⟩:=List.mem_map.1 hq
  have hm:=Tfq c3 q0 hq0
  by_cases hlt:q0.1<R.length
  · left
    dsimp only
    rw[Te7 hlt]
    obtain⟨o,ho,_⟩:=hRx _ (Ta7 hlt)
    rw[ho]; simp
  · exact .inr (Ttj (h':=h') hfr c2 (by omega) (by omega) (by omega)).2
 | _=>exact nomatch (show(none:Option Eff)=some e from he)
theorem Tow {d:Nat}{o:AOp}(ho:o.isShr=true){e:Eff}(he:eff call s d o=some e):∀ q∈e.hs,get s.h q.1≠none∨2000<=q.1 % 100000:=by
 cases o<;> first | (simp[AOp.isShr]at ho; done) | skip
 case inl f l =>
  simp only[eff]at he
  split at he
  · exact Tj8 he
  · simp at he
 case inn f l =>
  simp only[eff]at he
  split at he
  · exact fun q hq=> .inr (Tti he q hq).2
  · simp at he
 case inq f l =>
  simp only[eff]at he
  split at he
  · exact fun q hq=> .inr (Tti he q hq).2
  · simp at he
 case cvs x l =>
  simp only[eff]at he
  split at he
  · exact Tj8 he
  · exact Tj8 he
  · simp at he
theorem Tzf {d:Nat}{o:AOp}(ho:o.isNew=true){e:Eff}(he:eff call s d o=some e):∀ q∈e.hs,get s.h q.1=none/\cand d q.1:=by
 cases o<;> first | (simp[AOp.isNew]at ho; done) | skip
 all_goals
  simp only[eff]at he
  split at he
  · simp only[oIE]at he
    subst he
    intro q hq
    simp only[List.mem_singleton]at hq
    subst hq
    exact Ti6 ‹newId _ _=some _›
  · simp at he
theorem Thr {h h':List (Nat×Ob)}{f:Nat->Nat}:∀ {R:List Nat} {i:Nat},(∀ d∈R,get h d=get h' d)->subH h f R i=subH h' f R i
 | [],_,_=>rfl
 | d::R,i,hh=>by
  simp only[subH,hh d (by simp)]
  rw[Thr (R:=R) (i:=i+1) fun e he=>hh e (by simp[he])]
theorem Tj9 (hw:WF s)(hf:∀ c,get s.h c≠none->get s'.h c=get s.h c)(hn:∀ c,2000<=c % 100000-> (get s.h c=none↔get s'.h c=none)){d:Nat}{f:FuncId}{vs:List SV}(ht:∀ d∈vs.flatMap SV.refs,get s.h d≠none):inlE call s d f vs=inlE call s' d f vs:=by
 unfold inlE
 have hrs:=Tce (s:=s) (s':=s') hw (fun c hc=>by rw[hf c hc]; exact Fz.refl _) 300 (vs.flatMap SV.refs) [] ht
 rw[← hrs]
 cases hR:reach s.h 300 (vs.flatMap SV.refs) []with
 | none=>rfl
 | some R =>
  dsimp only
  obtain⟨_,_,hRx,_⟩:=Tbv hR
  rw[Thr (h:=s.h) (h':=s'.h) fun d hd=>by obtain⟨o,q,_⟩:=hRx d hd; rw[hf d (by rw[q]; simp)]]
  cases hcc:call (f+1000000) [.hp (vs.map (·.mapr (pos R))) (subH s'.h (pos R) R 0)]with
  | none=>rfl
  | some r =>
   dsimp only
   cases r with
   | shr v h' =>
    rw[Tfb,Tfb]
    by_cases hcond:R.length<=h'.length/\2000+50*d+ (h'.length-R.length)<=100000/\okK h' 0=true/\ (v.refs.all fun i=>decide (i<h'.length))=true/\closeB h' h'.length=true
    · rw[if_pos hcond,if_pos hcond,Td7 hn (by omega) hcond.2.1]
    · rw[if_neg hcond,if_neg hcond]
   | _=>rfl
theorem Tox (hw:WF s)(hf:∀ c,get s.h c≠none->get s'.h c=get s.h c)(hn:∀ c,2000<=c % 100000-> (get s.h c=none↔get s'.h c=none)){d:Nat}{f:FuncId}{vs:List SV}{cl:Bool}(ht:∀ d∈vs.flatMap SV.refs,get s.h d≠none):innE call s d f vs cl=innE call s' d f vs cl:=by
 unfold innE
 have hrs:=Tce (s:=s) (s':=s') hw (fun c hc=>by rw[hf c hc]; exact Fz.refl _) 300 (vs.flatMap SV.refs) [] ht
 rw[← hrs]
 cases hR:reach s.h 300 (vs.flatMap SV.refs) []with
 | none=>rfl
 | some R =>
  dsimp only
  obtain⟨_,_,hRx,_⟩:=Tbv hR
  have hsm:∀ d∈R,get s.h d=get s'.h d:=fun d hd=>by obtain⟨o,q,_⟩:=hRx d hd; rw[hf d (by rw[q]; simp)]
  have hnr:noRow s.h R=noRow s'.h R:=by
   unfold noRow
   apply Bool.eq_iff_iff.2
   rw[List.all_eq_true,List.all_eq_true]
   exact forall_congr' fun d=>forall_congr' fun hd=>by rw[hsm d hd]
  rw[Thr hsm,hnr]
  by_cases hc: (!cl||noRow s'.h R)=true
  · rw[if_pos hc,if_pos hc]
    cases hcc:call (f+2000000) [.hp (vs.map (·.mapr (pos R))) (subH s'.h (pos R) R 0)]with
    | none=>rfl
    | some r =>
     dsimp only
     cases r with
     | shn v h' =>
      rw[Tdl,Tdl]
      by_cases hcond:2000+50*d+h'.length<=100000/\okK h' R.length=true/\ (v.refs.all fun i=>decide (i<R.length+h'.length))=true/\closeB h' (R.length+h'.length)=true
      · rw[if_pos hcond,if_pos hcond,Td7 hn (by omega) hcond.1]
      · rw[if_neg hcond,if_neg hcond]
     | _=>rfl
  · rw[if_neg hc,if_neg hc]
theorem Txk (hw:WF s)(hf:∀ c,get s.h c≠none->get s'.h c=get s.h c)(hn:∀ c,2000<=c % 100000-> (get s.h c=none↔get s'.h c=none)){d:Nat}{o:AOp}(ho:o.isShr=true)(hx:∀ x∈o.xs,x.ev s=x.ev s'):eff call s d o=eff call s' d o:=by
 have ht:∀ {l:List X} {vs:List SV},evs s l=some vs->∀ d∈vs.flatMap SV.refs,get s.h d≠none:=fun hv d hd=>by
  obtain⟨v,h1,h2⟩:=List.mem_flatMap.1 hd
  exact Tfw hw hv v h1 d (SV.mem_refs.1 h2)
 cases o<;> first | (simp[AOp.isShr]at ho; done) | skip
 case inl f l =>
  have e1:evs s l=evs s' l:=Tas hx
  simp only[eff,← e1]
  cases hv:evs s l with
  | none=>rfl
  | some vs=>exact Tj9 hw hf hn (ht hv)
 case inn f l =>
  have e1:evs s l=evs s' l:=Tas hx
  simp only[eff,← e1]
  cases hv:evs s l with
  | none=>rfl
  | some vs=>exact Tox hw hf hn (ht hv)
 case inq f l =>
  have e1:evs s l=evs s' l:=Tas hx
  simp only[eff,← e1]
  cases hv:evs s l with
  | none=>rfl
  | some vs=>exact Tox hw hf hn (ht hv)
 case cvs x l =>
  have e1:=hx x (by simp[AOp.xs])
  have e2:evs s l=evs s' l:=Tas fun y hy=>hx y (by simp[AOp.xs,hy])
  simp only[eff,← e1,← e2]
  cases hv0:x.ev s with
  | none=>rfl
  | some v =>
   cases hv:evs s l with
   | none =>
    cases v with
    | p y=>cases y<;> rfl
    | _=>rfl
   | some vs =>
    have hcap:∀(cs:List SV),(∀ u∈cs,∀ d,u.ref d=true->v.ref d=true)->∀ d∈ (vs++cs).flatMap SV.refs,get s.h d≠none:=fun cs hcs d hd=>by
     obtain⟨u,h1,h2⟩:=List.mem_flatMap.1 hd
     rcases List.mem_append.1 h1 with h1 | h1
     · exact Tfw hw hv u h1 d (SV.mem_refs.1 h2)
     · exact Tcy hw hv0 (hcs u h1 d (SV.mem_refs.1 h2))
    cases v with
    | fnv f cs =>
     exact Tj9 hw hf hn (hcap _ fun u hu d hd=>by
      obtain⟨r,hr,rfl⟩:=List.mem_map.1 hu
      exact List.any_eq_true.2 ⟨r,hr,by cases r<;> first | (simp[RV.ref,RV.sv,SV.ref]at hd; done) | simpa[RV.ref,RV.sv,SV.ref]using hd⟩)
    | p y =>
     cases y with
     | fn f cs =>
      exact Tj9 hw hf hn (hcap _ fun u hu d hd=>by
       obtain⟨r,hr,rfl⟩:=List.mem_map.1 hu
       simp[SV.ref]at hd)
     | _=>rfl
    | _=>rfl
theorem Tlr (hw:WF s){a i:AOper}(hs:apartS a i=true)(hh:qpair2 a i=true∨qpair2 i a=true){ea:Eff}(ha:pre call a s=some ea):pre call i (app a s ea)=pre call i s:=by
 have hr:∀ n∈i.reads,get (app a s ea).t n=get s.t n:=Tfy hs
 have hx:=Tm6 hr
 have hx':∀ x∈i.o.xs,x.ev s=x.ev (app a s ea):=fun x h=> (hx x h).symm
 refine Tgo hr ?_
 simp only[qpair2,Bool.and_eq_true,decide_eq_true_eq]at hh
 rcases hh with⟨⟨q1,q2⟩,q3⟩ | ⟨⟨q1,q2⟩,q3⟩
 ·
  have hk:∀ q∈ea.hs,get s.h q.1≠none∨2000<=q.1 % 100000:=by
   rcases Tcr ha with he | rfl
   · exact Tow q1 he
   · intro q hq; simp at hq
  have hnn:newId s.h (i.d.getD 0)=newId (app a s ea).h (i.d.getD 0):=Tlk fun j _=>by
   show get s.h _=none↔get (putAll s.h ea.hs) _=none
   constructor
   · intro h0
     rw[Ta9]
     split
     · rename_i o ho
       rcases hk _ (Tbi ho)with h | h
       · exact absurd h0 h
       · dsimp only at h; omega
     · exact h0
   · intro h0
     cases hg:get s.h (i.d.getD 0+j*100000)with
     | none=>rfl
     | some x=>exact absurd h0 (Taw ea.hs (by rw[hg]; simp))
  cases ho:i.o<;> rw[ho]at q2<;> first | (simp[AOp.isNew]at q2; done) | skip
  all_goals simp only[eff,hnn]
 · have hk:∀ q∈ea.hs,get s.h q.1=none/\cand (a.d.getD 0) q.1:=by
    rcases Tcr ha with he | rfl
    · exact Tzf q2 he
    · intro q hq; simp at hq
   refine(Txk hw (fun c hc=> ?_) (fun c hc=> ?_) q1 hx').symm
   · show get (putAll s.h ea.hs) c=_
     rw[Ta9]
     split
     · rename_i o ho; exact absurd (hk _ (Tbi ho)).1 hc
     · rfl
   · show get s.h c=none↔get (putAll s.h ea.hs) c=none
     constructor
     · intro h0
       rw[Ta9]
       split
       · rename_i o ho
         obtain⟨_,_,j,_,e1⟩:=hk _ (Tbi ho)
         dsimp only at e1
         omega
       · exact h0
     · intro h0
       cases hg:get s.h c with
       | none=>rfl
       | some x=>exact absurd h0 (Taw ea.hs (by rw[hg]; simp))
theorem Toy {a i:AOper}(hh:qpair2 a i=true){ea ei:Eff}(ha:pre call a s=some ea)(hi:pre call i s=some ei) :
 putAll (putAll s.h ea.hs) ei.hs=putAll (putAll s.h ei.hs) ea.hs:=by
 simp only[qpair2,Bool.and_eq_true,decide_eq_true_eq]at hh
 obtain⟨⟨q1,q2⟩,q3⟩:=hh
 refine Tdp _ _ _ fun q hq r hr e=> ?_
 exfalso
 have k2:get s.h r.1=none/\cand (i.d.getD 0) r.1:=by
  rcases Tcr hi with he | rfl
  · exact Tzf q2 he r hr
  · simp at hr
 have k1:get s.h q.1≠none∨2000<=q.1 % 100000:=by
  rcases Tcr ha with he | rfl
  · exact Tow q1 he q hq
  · simp at hq
 obtain⟨g1,_,j,_,g2⟩:=k2
 rcases k1 with k1 | k1
 · rw[e]at k1; exact k1 g1
 · rw[e]at k1; omega
theorem Toz (hw:WF s){a i:AOper}(hs:apartS a i=true)(hh:apartH a i=true){ea:Eff}(ha:pre call a s=some ea):pre call i (app a s ea)=pre call i s:=by
 simp only[apartH,Bool.or_eq_true]at hh
 rcases hh with(((hh | hh) | hh) | hh) | hh
 · exact Tth hw hs hh ha
 · exact Tlq hw hs (.inl hh) ha
 · exact Tlq hw hs (.inr hh) ha
 · exact Tlr hw hs (.inl hh) ha
 · exact Tlr hw hs (.inr hh) ha
theorem Tm9 {a i:AOper}(h:apartH a i=true):apartH i a=true:=by
 simp only[apartH,Bool.or_eq_true]at h ⊢
 rcases h with(((h | h) | h) | h) | h
 · exact .inl (.inl (.inl (.inl (Tlp h))))
 · exact .inl (.inl (.inr h))
 · exact .inl (.inl (.inl (.inr h)))
 · exact .inr h
 · exact .inl (.inr h)
theorem T07 {a i:AOper}(hh:apartH a i=true){ea ei:Eff}(ha:pre call a s=some ea)(hi:pre call i s=some ei) :
 putAll (putAll s.h ea.hs) ei.hs=putAll (putAll s.h ei.hs) ea.hs:=by
 simp only[apartH,Bool.or_eq_true]at hh
 rcases hh with(((hh | hh) | hh) | hh) | hh
 · exact Txi hh ha hi
 · exact Tov hh ha hi
 · exact(Tov hh hi ha).symm
 · exact Toy hh ha hi
 · exact(Toy hh hi ha).symm
theorem T08 {a i:AOper}(h:apartS a i=true)(v u:SV)(n:Nat):get (puts (puts s.t a.d v) i.d u) n=get (puts (puts s.t i.d u) a.d v) n:=by
 cases ha:a.d with
 | none=>rfl
 | some d =>
  cases hi:i.d with
  | none=>rfl
  | some e =>
   have hne:e≠d:=by simp only[apartS,ha,hi,Bool.and_eq_true,bne_iff_ne]at h; exact h.2
   simp only[puts,Tbf]
   by_cases h1:d=n
   · subst h1; simp[hne]
   · simp[h1]
theorem swap (hw:WF s){a i:AOper}(hin:indep a i=true){s1 s2:St}(h1:step call a s=some s1)(h2:step call i s1=some s2) :
 ∃ s1' s2',step call i s=some s1'/\step call a s1'=some s2'/\Eqv s2 s2':=by
 simp only[indep,Bool.and_eq_true]at hin
 obtain⟨⟨ha,hi⟩,hh⟩:=hin
 rw[Tdo]at h1 h2
 cases pa:pre call a s with
 | none=>rw[pa]at h1; simp at h1
 | some ea =>
  rw[pa]at h1
  simp only[Option.map_some,oIE]at h1
  subst h1
  rw[Toz hw ha hh pa]at h2
  cases pi:pre call i s with
  | none=>rw[pi]at h2; simp at h2
  | some ei =>
   rw[pi]at h2
   simp only[Option.map_some,oIE]at h2
   subst h2
   refine⟨app i s ei,app a (app i s ei) ea,by rw[Tdo,pi]; rfl,?_,?_⟩
   · rw[Tdo,Toz hw hi (Tm9 hh) pi,pa]; rfl
   · exact⟨fun n=>T08 ha ea.v ei.v n,T07 hh pa pi⟩
end
end Go.Proofs.YtjpibniecllafaaGreat.AM
end
section
namespace Go.Proofs.YtjpibniecllafaaGreat.AM
open Go Go.RowKit
section
variable {s s':St}{call:Call}
theorem WF.step (hw:WF s){o:AOper}(h:step call o s=some s'):WF s':=by
 rw[Tdo]at h
 cases hp:pre call o s with
 | none=>rw[hp]at h; simp at h
 | some e =>
  rw[hp]at h
  simp only[Option.map_some,oIE]at h
  subst h
  have hr:RefE s e:=by
   rcases Tcr hp with he | rfl
   · exact T04 hw he
   · exact .ng (fun d hd=>by simp[SV.ref,undefS]at hd) rfl
  refine⟨fun n v d hn hd=> ?_,hw.put hr.h⟩
  have old:get s.t n=some v->get (app o s e).h d≠none:=fun hn=>Taw e.hs (hw.t n v d hn hd)
  cases hod:o.d with
  | none=>exact old (by simpa[app,hod,puts]using hn)
  | some k =>
   simp only[app,hod,puts,Tbf]at hn
   split at hn
   · simp only[oIE]at hn
     subst hn
     exact hr.v d hd
   · exact old hn
theorem Txl {t t':List (Nat×SV)}(e:∀ n,get t n=get t' n)(d:Option Nat)(v:SV)(n:Nat):get (puts t d v) n=get (puts t' d v) n:=by
 cases d with
 | none=>exact e n
 | some d=>simp only[puts,Tbf,e]
theorem Eqv.step (E:Eqv s s'){o:AOper}{s1:St}(h:step call o s=some s1):∃ s1',AM.step call o s'=some s1'/\Eqv s1 s1':=by
 rw[Tdo]at h
 have hp:pre call o s=pre call o s':=Tgo (fun n _=>E.1 n) (Thl call _ _ (fun x _=>E.ev x) E.2)
 cases he:pre call o s with
 | none=>rw[he]at h; simp at h
 | some e =>
  rw[he]at h
  simp only[Option.map_some,oIE]at h
  subst h
  exact⟨app o s' e,by rw[Tdo,← hp,he]; rfl,fun n=>Txl E.1 _ _ n,by simp only[app,E.2]⟩
theorem Eqv.steps:∀ {os:List AOper} {s s' s1:St},Eqv s s'->steps call os s=some s1->∃ s1',AM.steps call os s'=some s1'/\Eqv s1 s1'
 | [],s,s',s1,E,h=>by
  simp only[AM.steps,oIE]at h
  subst h
  exact⟨s',rfl,E⟩
 | o::os,s,s',s1,E,h=>by
  simp only[AM.steps]at h
  cases h1:AM.step call o s with
  | none=>rw[h1]at h; simp at h
  | some s2 =>
   rw[h1]at h
   obtain⟨s2',k1,k2⟩:=E.step h1
   obtain⟨s3,k3,k4⟩:=k2.steps h
   exact⟨s3,by simp only[AM.steps,k1]; exact k3,k4⟩
theorem front {i:AOper}{B:List AOper}:∀ {A:List AOper} {s sn:St},WF s-> (∀ a∈A,indep a i=true)->steps call (A++i::B) s=some sn->∃ s1 sn',step call i s=some s1/\steps call (A++B) s1=some sn'/\Eqv sn sn'
 | [],s,sn,hw,hA,h=>by
  simp only[List.nil_append,steps]at h
  cases h1:step call i s with
  | none=>rw[h1]at h; simp at h
  | some s1=>rw[h1]at h; exact⟨s1,sn,rfl,h,Eqv.refl _⟩
 | a::A,s,sn,hw,hA,h=>by
  simp only[List.cons_append,steps]at h
  cases ha:step call a s with
  | none=>rw[ha]at h; simp at h
  | some sa =>
   rw[ha]at h
   obtain⟨sai,sn1,k1,k2,k3⟩:=front (hw.step ha) (fun x hx=>hA x (by simp[hx])) h
   obtain⟨si,sia,m1,m2,m3⟩:=swap hw (hA a (by simp)) ha k1
   obtain⟨sn2,n1,n2⟩:=m3.steps k2
   exact⟨si,sn2,m1,by simp only[List.cons_append,steps,m2]; exact n1,k3.trans n2⟩
def pickL (aos:List AOper)(l:List Nat):List AOper:=l.filterMap fun i=>aos[i]?
theorem Tf0:∀(aos:List AOper),pickL aos (List.range aos.length)=aos
 | []=>rfl
 | a::aos=>by
  have ih:=Tf0 aos
  unfold pickL at ih ⊢
  rw[List.length_cons,List.range_succ_eq_map,List.filterMap_cons]
  simp only[List.getElem?_cons_zero,List.filterMap_map]
  congr 1
def rem (n:Nat)(listed:Array Bool):List Nat:= (List.range n).filter fun i=> !listed.getD i true
theorem Txm {n i:Nat}{listed:Array Bool}(hi:i<n)(hl:listed.getD i true=false) :
 ∃ A B,rem n listed=A++i::B/\rem n (listed.setIfInBounds i true)=A++B/\∀ j∈A,j<i/\listed.getD j true=false:=by
 obtain⟨X,Y,hXY⟩:=List.append_of_mem (List.mem_range.2 hi)
 have hp:List.Pairwise (· < ·) (X++i::Y):=hXY▸List.pairwise_lt_range
 obtain⟨_,hp2,hp3⟩:=List.pairwise_append.1 hp
 have hX:∀ j∈X,j<i:=fun j hj=>hp3 j hj i (by simp)
 have hY:∀ j∈Y,i<j:=fun j hj=> (List.pairwise_cons.1 hp2).1 j hj
 have hisz:i<listed.size:=by
  rcases Nat.lt_or_ge i listed.size with h | h
  · exact h
  · simp[Array.getElem?_eq_none h]at hl
 have keep:∀(l:List Nat),(∀ j∈l,j≠i)->l.filter (fun j=> !(listed.setIfInBounds i true).getD j true)=l.filter (fun j=> !listed.getD j true):=fun l hl=>by
  refine List.filter_congr fun j hj=> ?_
  rw[getD_set_ne true (Ne.symm (hl j hj))]
 refine⟨X.filter fun j=> !listed.getD j true,Y.filter fun j=> !listed.getD j true,?_,?_,?_⟩
 · unfold rem
   rw[hXY,List.filter_append,List.filter_cons_of_pos (by simp only[hl]; rfl)]
 · unfold rem
   rw[hXY,List.filter_append,List.filter_cons_of_neg (by simp[hisz]),keep X fun j hj=>Nat.ne_of_lt (hX j hj),keep Y fun j hj=>Nat.ne_of_gt (hY j hj)]
 · intro j hj
   rw[List.mem_filter]at hj
   exact⟨hX j hj.1,by simpa using hj.2⟩
end
section
variable {ops:List Oper}
theorem Ttk (md:Region.Mode) (acc:List Nat) (j:Nat):∀(es:List Edge) (m:Nat),(es.foldl (fun m e=>if Region.binds md e then m ||| (1 <<< e.on) ||| acc.getD e.on 0 else m) m).testBit j=true ->
 m.testBit j=true∨∃ e∈es,Region.binds md e=true/\ (e.on=j∨ (acc.getD e.on 0).testBit j=true)
 | [],m,h=> .inl h
 | e :: es,m,h=>by
  rw[List.foldl_cons]at h
  rcases Ttk md acc j es _ h with h | ⟨e',he',hb⟩
  · split at h
    · rename_i hb
      rw[Nat.testBit_or,Nat.testBit_or,Bool.or_eq_true,Bool.or_eq_true]at h
      rcases h with(h | h) | h
      · exact .inl h
      · refine .inr ⟨e,by simp,hb,.inl ?_⟩
        rw[Nat.shiftLeft_eq,Nat.one_mul,Nat.testBit_two_pow]at h
        simpa using h
      · exact .inr ⟨e,by simp,hb,.inr h⟩
    · exact .inl h
  · exact .inr ⟨e',by simp[he'],hb⟩
theorem To0 (md:Region.Mode):∀(os:List Oper) (n:Nat) (acc:List Nat),(∀ i,i<acc.length-> (befs md os n acc)[i]?=acc[i]?) /\
 ∀(i:Nat) (o:Oper),os[i]?=some o->∃ pre:List Nat,pre.length=acc.length+i/\ (∀ j,j<pre.length-> (befs md os n acc)[j]?=pre[j]?) /\
  (befs md os n acc)[acc.length+i]?=some (o.after.toList.foldl (fun m e=>if Region.binds md e then m ||| (1 <<< e.on) ||| pre.getD e.on 0 else m) 0)
 | [],n,acc=> ⟨fun i _=>rfl,fun i o h=>by simp at h⟩
 | o ::os,n,acc=>by
  obtain⟨h1,h2⟩:=To0 md os (n+1) (acc++ [o.after.toList.foldl (fun m e=>if Region.binds md e then m ||| (1 <<< e.on) ||| acc.getD e.on 0 else m) 0])
  refine⟨fun i hi=> ?_,fun i o' ho=> ?_⟩
  · simp only[befs]
    rw[h1 i (by simp; omega),List.getElem?_append_left hi]
  · cases i with
    | zero =>
     simp only[List.getElem?_cons_zero,oIE]at ho
     subst ho
     refine⟨acc,rfl,fun j hj=> ?_,?_⟩
     · simp only[befs]
       rw[h1 j (by simp; omega),List.getElem?_append_left hj]
     · simp only[befs]
       rw[h1 _ (by simp)]
       simp
    | succ i =>
     simp only[List.getElem?_cons_succ]at ho
     obtain⟨pre,k1,k2,k3⟩:=h2 i o' ho
     refine⟨pre,?_,?_,?_⟩
     · rw[k1]; simp; omega
     · simpa only[befs]using k2
     · simp only[befs]
       rw[← k3]
       congr 1
       simp; omega
theorem Ths (md:Region.Mode):∀(os:List Oper) (n:Nat),backs md os n=true->∀(i:Nat) (o:Oper),os[i]?=some o->∀ e∈o.after,Region.binds md e=true->e.on<n+i
 | [],n,h,i,o,ho=>by simp at ho
 | o::os,n,h,i,o',ho=>by
  simp only[backs,Bool.and_eq_true]at h
  cases i with
  | zero =>
   simp only[List.getElem?_cons_zero,oIE]at ho
   subst ho
   intro e he hb
   have:=List.all_eq_true.1 h.1 e (by simpa using he)
   simpa[hb]using this
  | succ i =>
   simp only[List.getElem?_cons_succ]at ho
   intro e he hb
   have:=Ths md os (n+1) h.2 i o' ho e he hb
   omega
def Closed (ops:List Oper)(listed:Array Bool):Prop:=∀(j:Nat) (o:Oper),ops[j]?=some o->listed.getD j false=true->∀ e∈o.after,Region.binds .any e=true->listed.getD e.on false=true
theorem Tqt {listed:Array Bool}(hc:Closed ops listed)(hb:backs .any ops 0=true):∀(i:Nat) (o:Oper),ops[i]?=some o-> (∀ e∈o.after,Region.binds .any e=true->listed.getD e.on false=true) ->
 ∀ j,((befs .any ops 0 [])[i]?.getD 0).testBit j=true->listed.getD j false=true:=by
 intro i
 induction i using Nat.strongRecOn with
 | ind i ih =>
  intro o ho hall j hj
  obtain⟨pre,k1,k2,k3⟩:= (To0 .any ops 0 []).2 i o ho
  simp only[List.length_nil,Nat.zero_add]at k1 k3
  rw[k3]at hj
  rcases Ttk .any pre j _ 0 hj with h | ⟨e,he,hbe,h⟩
  · simp at h
  · have hl:=hall e (by simpa using he) hbe
    rcases h with rfl | h
    · exact hl
    · have hlt:=Ths .any ops 0 hb i o ho e (by simpa using he) hbe
      simp only[Nat.zero_add]at hlt
      have hon:∃ o',ops[e.on]?=some o':=by
       have:i<ops.length:= (List.getElem?_eq_some_iff.1 ho).1
       exact⟨ops[e.on]'(by omega),List.getElem?_eq_getElem _⟩
      obtain⟨o',ho'⟩:=hon
      refine ih e.on hlt o' ho' (hc e.on o' ho' hl) j ?_
      rw[k2 _ (by omega)]
      rw[List.getD_eq_getElem?_getD]at h
      exact h
theorem Ti7 {m:Nat}{i:AOper}:∀ {aos:List AOper} {n:Nat},okPair m i aos n=true->∀(j:Nat) (a:AOper),aos[j]?=some a->m.testBit (n+j)=true∨indep a i=true
 | [],n,h,j,a,ha=>by simp at ha
 | b::aos,n,h,j,a,ha=>by
  simp only[okPair,Bool.and_eq_true,Bool.or_eq_true]at h
  cases j with
  | zero =>
   simp only[List.getElem?_cons_zero,oIE]at ha
   subst ha
   exact h.1
  | succ j =>
   simp only[List.getElem?_cons_succ]at ha
   have:=Ti7 h.2 j a ha
   rwa[show n+1+j=n+ (j+1)by omega]at this
theorem Tht:∀ {ms:List Nat} {seen aos:List AOper},okPairs ms seen aos=true->ms.length=aos.length->∀(i:Nat) (ai:AOper),aos[i]?=some ai->∀(j:Nat) (aj:AOper),(seen++aos)[j]?=some aj->j<seen.length+i-> (ms[i]?.getD 0).testBit j=true∨indep aj ai=true
 | [],seen,aos,h,hl,i,ai,hi=>by
  cases aos with
  | nil=>simp at hi
  | cons a aos=>simp at hl
 | m::ms,seen,[],h,hl,i,ai,hi=>by simp at hi
 | m::ms,seen,a::aos,h,hl,i,ai,hi=>by
  simp only[okPairs,Bool.and_eq_true]at h
  intro j aj hj hlt
  cases i with
  | zero =>
   simp only[List.getElem?_cons_zero,oIE]at hi
   subst hi
   rw[List.getElem?_append_left (by omega)]at hj
   have:=Ti7 h.1 j aj hj
   simpa using this
  | succ i =>
   simp only[List.getElem?_cons_succ]at hi
   have:=Tht h.2 (by simpa using hl) i ai hi j aj (by simpa using hj) (by simp; omega)
   simpa using this
end
section
variable {P:Program}{base:Nat}{w0:World}{lm0:L0}{N:Nat}{g:Gs}{a:Act}{w:World}{s:St}{call:Call}{Q:Exit->Act->World->Prop}{ops:Array Oper}
theorem Sim.wf (S:Sim base w0 lm0 N g a w s):WF s:=by
 refine⟨fun n v d hn hd=> ?_,fun x o d hx hd=> ?_⟩
 · obtain⟨u,_,hr⟩:=S.tm n v hn
   obtain⟨o,ho,_⟩:=hr.there hd
   rw[ho]; simp
 · cases o with
   | gr e k l =>
    obtain⟨_,_,⟨xs,h3,_⟩,_⟩:=S.ob x _ hx
    have hq:=S.gs x e k l xs hx h3
    have key:∀(l:List RV) (us:List Value),QRepL w g (get s.h) l us-> (l.any (·.ref d))=true->get s.h d≠none:=by
     intro l us hq
     induction hq with
     | nil=>intro h; simp at h
     | cons a b ih =>
      intro h
      simp only[List.any_cons,Bool.or_eq_true]at h
      rcases h with h | h
      · rename_i r _ _ _
        obtain⟨o,ho,_⟩:=SRep.there (v:=r.sv) (QRep.sv.1 a) (e:=d) (by cases r<;> first | (simp[RV.ref,RV.sv,SV.ref]at h; done) | simpa[RV.ref,RV.sv,SV.ref]using h)
        rw[ho]; simp
      · exact ih h
    refine key _ _ hq ?_
    obtain⟨c,hc,h2⟩:=List.any_eq_true.1 hd
    obtain⟨r,hr,h3⟩:=List.any_eq_true.1 h2
    exact List.any_eq_true.2 ⟨r,List.mem_flatten.2 ⟨c,hc,hr⟩,h3⟩
   | _=>simp[Ob.ref]at hd
theorem Sim.eqv (S:Sim base w0 lm0 N g a w s){s':St}(E:Eqv s s'):Sim base w0 lm0 N g a w s' :=
 S.less (fun n v h=>by rw[E.1]; exact h) (fun d o h=>by rw[E.2]; exact h) (fun n v d _ _=>by rw[E.2]) (fun _ _ d _ _=>by rw[E.2]) (fun d _=>by rw[E.2])
theorem Tfc:∀ {os:List Oper} {aos:List AOper},okOps P N ops os aos=true->os.length=aos.length/\∀(i:Nat) (o:Oper),os[i]?=some o->∃ ao,aos[i]?=some ao/\okOper P N ops o ao=true
 | [],[],h=> ⟨rfl,fun i o ho=>by simp at ho⟩
 | [],a::aos,h=>by simp[okOps]at h
 | o::os,[],h=>by simp[okOps]at h
 | o::os,a::aos,h=>by
  simp only[okOps,Bool.and_eq_true]at h
  obtain⟨h1,h2⟩:=Tfc h.2
  refine⟨by simp[h1],fun i o' ho=> ?_⟩
  cases i with
  | zero =>
   simp only[List.getElem?_cons_zero,oIE]at ho
   subst ho
   exact⟨a,rfl,h.1⟩
  | succ i =>
   simp only[List.getElem?_cons_succ]at ho ⊢
   exact h2 i o' ho
theorem To1 (hG:Good P call){aos:List AOper}(hok:okOps P N ops ops.toList aos=true){sn:St}(hK:∀ g' a' w',Sim base w0 lm0 N g' a' w' sn->Q .normal a' w') :
 ∀(l:List Nat) {g:Gs} {a:Act} {w:World} {s:St},(∀ i∈l,i<ops.size)->Sim base w0 lm0 N g a w s->steps call (pickL aos l) s=some sn->wpOps P ops Q l a w
 | [],g,a,w,s,hl,S,h=>by
  simp only[pickL,List.filterMap_nil,steps,oIE]at h
  subst h
  exact hK g a w S
 | i::l,g,a,w,s,hl,S,h=>by
  have hi:i<ops.size:=hl i (by simp)
  obtain⟨ao,h1,h2⟩:= (Tfc hok).2 i ops[i] (by simp[hi])
  simp only[pickL,List.filterMap_cons,h1,steps]at h
  rw[wpOps_cons]
  cases hs:step call ao s with
  | none=>rw[hs]at h; simp at h
  | some s1 =>
   rw[hs]at h
   exact Ti4 S hG (Array.getElem?_eq_getElem hi) h2 hs fun g' a' w' S'=>To1 hG hok hK l (fun j hj=>hl j (by simp[hj])) S' h
theorem Tqu {listed:Array Bool}(hb:backs .any ops.toList 0=true):∀ n,n<ops.size->listed.getD n true=false->∃ i,i∈Region.ready .any ops listed:=by
 intro n
 induction n using Nat.strongRecOn with
 | ind n ih =>
  intro hn hl
  by_cases h:∀ e∈ops[n].after,Region.binds .any e=true->listed.getD e.on false=true
  · exact⟨n,mem_ready.2 ⟨hl,ops[n],Array.getElem?_eq_getElem hn,h⟩⟩
  · have:∃ e,e∈ops[n].after/\Region.binds .any e=true/\listed.getD e.on false≠true:=by
     apply Classical.byContradiction
     intro hno
     exact h fun e he hbe=>Classical.byContradiction fun hx=>hno ⟨e,he,hbe,hx⟩
    obtain⟨e,he,hbe,hx⟩:=this
    have hlt:=Ths .any ops.toList 0 hb n ops[n] (by simp[hn]) e he hbe
    simp only[Nat.zero_add]at hlt
    by_cases hsz:e.on<listed.size
    · refine ih e.on hlt (by omega) ?_
      simp[hsz]at hx ⊢
      exact hx
    ·
     exfalso
     simp[Array.getElem?_eq_none (show listed.size<=n by omega)]at hl
theorem T09 (hG:Good P call){aos:List AOper}(hok:okOps P N ops ops.toList aos=true)(hord:okOrder ops.toList aos=true){sn:St}(hK:∀ g' a' w',Sim base w0 lm0 N g' a' w' sn->Q .normal a' w') :
 ∀(fuel:Nat) {listed:Array Bool} {g:Gs} {a:Act} {w:World} {s:St},Closed ops.toList listed-> (rem ops.size listed).length<=fuel->Sim base w0 lm0 N g a w s-> (∃ sn',steps call (pickL aos (rem ops.size listed)) s=some sn'/\Eqv sn sn')->wpAny P .any ops Q fuel listed a w:=by
 simp only[okOrder,Bool.and_eq_true]at hord
 obtain⟨hb,hpairs⟩:=hord
 have nil:∀ {listed:Array Bool} {g:Gs} {a:Act} {w:World} {s:St},rem ops.size listed= []->Sim base w0 lm0 N g a w s-> (∃ sn',steps call (pickL aos (rem ops.size listed)) s=some sn'/\Eqv sn sn')->Q .normal a w:=by
  rintro listed g a w s hr S ⟨sn',h1,h2⟩
  rw[hr]at h1
  simp only[pickL,List.filterMap_nil,steps,oIE]at h1
  subst h1
  exact hK g a w (S.eqv h2.symm)
 have emp:∀ {listed:Array Bool},Region.ready .any ops listed= []->rem ops.size listed= []:=by
  intro listed hr
  cases hrem:rem ops.size listed with
  | nil=>rfl
  | cons i l =>
   exfalso
   have hm:i∈rem ops.size listed:=by rw[hrem]; simp
   unfold rem at hm
   rw[List.mem_filter,List.mem_range]at hm
   obtain⟨j,hj⟩:=Tqu hb i hm.1 (by simpa using hm.2)
   rw[hr]at hj
   cases hj
 intro fuel
 induction fuel with
 | zero =>
  intro listed g a w s hc hl S hs
  have hr:rem ops.size listed= []:=List.length_eq_zero_iff.1 (by omega)
  refine⟨?_,nil hr S hs⟩
  cases hrd:Region.ready .any ops listed with
  | nil=>rfl
  | cons i l =>
   exfalso
   have hi:i∈Region.ready .any ops listed:=by rw[hrd]; simp
   obtain⟨h0,o,ho,_⟩:=mem_ready.1 hi
   have:i∈rem ops.size listed:=by
    unfold rem
    rw[List.mem_filter,List.mem_range]
    exact⟨(Array.getElem?_eq_some_iff.1 ho).1,by simp only[h0]; rfl⟩
   rw[hr]at this
   cases this
 | succ fuel ih =>
  intro listed g a w s hc hl S hs
  refine⟨fun hr=>nil (emp hr) S hs,fun i hi=> ?_⟩
  obtain⟨h0,o,ho,hall⟩:=mem_ready.1 hi
  have hin:i<ops.size:= (Array.getElem?_eq_some_iff.1 ho).1
  obtain⟨A,B,r1,r2,r3⟩:=Txm hin h0
  obtain⟨hlen,hget⟩:=Tfc hok
  have hoi:ops.toList[i]?=some o:=by simpa using ho
  obtain⟨ao,ha1,ha2⟩:=hget i o hoi
  obtain⟨sn',hs1,hs2⟩:=hs
  rw[r1]at hs1
  have e1:pickL aos (A++i::B)=pickL aos A++ao::pickL aos B:=by simp[pickL,ha1]
  have e2:pickL aos (A++B)=pickL aos A++pickL aos B:=by simp[pickL]
  rw[e1]at hs1
  have hind:∀ x∈pickL aos A,indep x ao=true:=by
   intro x hx
   obtain⟨j,hjA,hj⟩:=List.mem_filterMap.1 hx
   obtain⟨q1,q2⟩:=r3 j hjA
   have hbl: (befs .any ops.toList 0 []).length=aos.length:=by
    have:∀(os:List Oper) (n:Nat) (acc:List Nat),(befs .any os n acc).length=acc.length+os.length:=by
     intro os
     induction os with
     | nil=>intro n acc; simp[befs]
     | cons o os ih=>intro n acc; rw[befs,ih]; simp; omega
    rw[this,List.length_nil,Nat.zero_add,hlen]
   rcases Tht hpairs hbl i ao ha1 j x (by simpa using hj) (by simpa using q1)with h | h
   · have:=Tqt hc hb i o hoi hall j h
     exfalso
     have hsz:j<listed.size:=by
      rcases Nat.lt_or_ge j listed.size with h | h
      · exact h
      · simp[Array.getElem?_eq_none h]at this
     simp[hsz]at this q2
     rw[this]at q2
     cases q2
   · exact h
  obtain⟨s1,sn2,k1,k2,k3⟩:=front S.wf hind hs1
  refine Ti4 S hG ho ha2 k1 fun g' a' w' S'=>ih ?_ ?_ S' ⟨sn2,?_,hs2.trans k3⟩
  · intro j oj hoj hlj e he hbe
    by_cases hji:j=i
    · subst hji
      rw[hoi]at hoj
      obtain rfl:=oIj hoj
      exact getD_set_true (hall e he hbe)
    · rw[getD_set_ne false (Ne.symm hji)]at hlj
      exact getD_set_true (hc j oj hoj hlj e he hbe)
  · rw[r2]
    rw[r1]at hl
    simp at hl ⊢
    omega
  · rw[r2,e2]; exact k2
theorem Sim.drawn (S:Sim base w0 lm0 N g a w s)(n:Nat):Sim base w0 lm0 N g a {w with drawn:=n} s :=
 S.turn (h':=s.h) ⟨Ext.blocks fun _ _ _=> ⟨rfl,rfl⟩,fun d o h=> .inr ⟨rfl,o,h,Shp.refl _⟩⟩ ⟨rfl,rfl,rfl,Nat.le_refl _,fun _ _=>rfl⟩ (fun _ _=>rfl)
  (fun d o h=> (S.ob d o h).keep (fun _ _=>rfl) (Ext.blocks fun _ _ _=> ⟨rfl,rfl⟩) fun _ _ _ b _=> ⟨rfl,rfl⟩) S.lt S.ap (fun d e k l h1=> .inl ⟨h1,rfl,fun _ _=>rfl⟩) (fun b _ _ hF=> ⟨⟨rfl,rfl⟩,hF⟩)
theorem Tgg (hm:P.follows .mixedOrders=true)(hG:Good P call){aos:List AOper}{id:Nat}{draw:Bool}(hok:okRegion P N ops aos draw=true)(S:Sim base w0 lm0 N g a w s){sn:St}(hs:steps call aos s=some sn)
 (hK:∀ g' a' w',Sim base w0 lm0 N g' a' w' sn->Q .normal a' w'): (Go.Code.region id ops draw).wp P Q a w:=by
 simp only[okRegion,Bool.and_eq_true,Bool.or_eq_true,Bool.not_eq_true']at hok
 obtain⟨h1,h2⟩:=hok
 have hlen:= (Tfc h1).1
 have hsz:ops.size=aos.length:=by simpa using hlen
 cases draw with
 | false =>
  refine wp_region (To1 hG h1 hK _ (fun i hi=>List.mem_range.1 hi) S ?_)
  rw[hsz,Tf0]; exact hs
 | true =>
  have h2:okOrder ops.toList aos=true:=by simpa using h2
  have hrem:rem ops.size (Array.replicate ops.size false)=List.range ops.size:=by
   unfold rem
   rw[List.filter_eq_self]
   intro i hi
   have:=List.mem_range.1 hi
   simp[this]
  refine wp_region_any hm (T09 hG h1 h2 hK _ (fun j o _ hj=> ?_) ?_ (S.drawn _) ⟨sn,?_,Eqv.refl _⟩)
  · exfalso
    by_cases hjn:j<ops.size<;> simp[hjn]at hj
  · rw[hrem]; simp
  · rw[hrem,hsz,Tf0]; exact hs
end
end Go.Proofs.YtjpibniecllafaaGreat.AM
end
section
namespace Go.Proofs.YtjpibniecllafaaGreat.AM
open Go Go.RowKit
theorem Fz.trans {a b c:Option Ob}(h:Fz a b)(k:Fz b c):Fz a c:=by
 rcases h.two with⟨e,n,fz,fz',l,rfl,rfl⟩ | ⟨rfl,_⟩
 · rcases k.two with⟨e1,n1,f1,f2,l1,h1,rfl⟩ | ⟨rfl,_⟩
   · simp only[oIE,Ob.row.injEq]at h1
     obtain⟨rfl,rfl,_,rfl⟩:=h1
     exact⟨rfl,rfl,rfl⟩
   · exact⟨rfl,rfl,rfl⟩
 · exact k
structure KeepP (pins:List Nat) (h0 h:List (Nat×Ob)):Prop where
 p:get h 999999=some (.pin pins)
 k:∀ d∈pins,get h0 d≠none/\Fz (get h0 d) (get h d)
section
variable {pins:List Nat}{h0:List (Nat×Ob)}{s s':St}{call:Call}
theorem KeepP.put {h hs:List (Nat×Ob)}(K:KeepP pins h0 h)(hn:HsN h hs):KeepP pins h0 (putAll h hs):=by
 refine⟨?_,fun d hd=> ?_⟩
 · have:=hn.fz (c:=999999) (by rw[K.p]; simp)
   rw[K.p]at this
   simp only[Fz]at this
   exact this.symm
 · obtain⟨q1,q2⟩:=K.k d hd
   exact⟨q1,q2.trans (hn.fz fun h=>q1 (q2.none_iff.2 h))⟩
theorem Ttl {h:List (Nat×Ob)}:∀ {vs xs:List SV} {fr:List (Nat×Ob)},fzvs h vs=some (xs,fr)->HsN h fr
 | [],xs,fr,he=>by simp only[fzvs,oIE,Prod.mk.injEq]at he; obtain⟨rfl,rfl⟩:=he; exact fun q hq=>by simp at hq
 | v::vs,xs,fr,he=>by
  simp only[fzvs]at he
  split at he
  case h_2=>simp at he
  rename_i x f1 h1
  split at he
  case h_2=>simp at he
  rename_i ys f2 h2
  simp only[oIE,Prod.mk.injEq]at he
  obtain⟨rfl,rfl⟩:=he
  have one:HsN h f1:=by
   cases v with
   | ms d off n =>
    simp only[fzv]at h1
    split at h1
    · split at h1
      case h_2=>simp at h1
      rename_i y fr' hfz
      simp only[oIE,Prod.mk.injEq]at h1
      obtain⟨rfl,rfl⟩:=h1
      exact(Tgf hfz 0).n
    · simp only[oIE,Prod.mk.injEq]at h1
      obtain⟨rfl,rfl⟩:=h1
      exact fun q hq=>by simp at hq
   | _=>simp only[fzv,oIE,Prod.mk.injEq]at h1; obtain⟨rfl,rfl⟩:=h1; exact fun q hq=>by simp at hq
  exact fun q hq=>by
   rcases List.mem_append.1 hq with hq | hq
   · exact one q hq
   · exact Ttl h2 q hq
theorem ro_hs {d:Nat}{o:AOp}(ho:o.ro=true){e:Eff}(he:eff call s d o=some e):HsN s.h e.hs:=by
 by_cases h1:o.hard=false
 · exact(Ttb h1 he).n
 by_cases h2:o.quiet=true
 · rw[Tot h2 he]; exact fun q hq=>by simp at hq
 by_cases h3:o.isInn=true
 · exact fun q hq=> .inr (Tou h3 he q hq).1
 cases o<;> first | (simp[AOp.hard]at h1; done) | (simp[AOp.quiet]at h2; done) | (simp[AOp.isInn]at h3; done) | (simp[AOp.ro,AOp.hard,AOp.quiet]at ho; done) | skip
 case boxr e1 k x =>
  simp only[eff]at he
  repeat' split at he
  all_goals first | (simp at he; done) | (simp only[oIE]at he; subst he; exact fun q hq=>by simp only[List.mem_singleton]at hq; subst hq; exact .inr (Tay ‹newId _ _=some _›))
 case alr e1 k c =>
  simp only[eff]at he
  repeat' split at he
  all_goals first | (simp at he; done) | (simp only[oIE]at he; subst he; exact fun q hq=>by simp only[List.mem_singleton]at hq; subst hq; exact .inr (Tay ‹newId _ _=some _›))
 case bldr z ps =>
  simp only[eff]at he
  repeat' split at he
  all_goals first | (simp at he; done) | (simp only[oIE]at he; subst he; exact fun q hq=>by simp at hq)
 case bldrf z ps =>
  simp only[eff]at he
  repeat' split at he
  all_goals first | (simp at he; done) | (simp only[oIE]at he; subst he; exact Ttl ‹fzvs _ _=some _›)
theorem To2:∀ {os:List AOper} {s s':St},(os.all fun o=>o.o.ro)=true->steps call os s=some s'->KeepP pins h0 s.h->KeepP pins h0 s'.h
 | [],s,s',_,h,K=>by simp only[steps,oIE]at h; subst h; exact K
 | o::os,s,s',hr,h,K=>by
  simp only[List.all_cons,Bool.and_eq_true]at hr
  simp only[steps]at h
  cases h1:step call o s with
  | none=>rw[h1]at h; simp at h
  | some s1 =>
   rw[h1]at h
   refine To2 hr.2 h ?_
   rw[Tdo]at h1
   cases hp:pre call o s with
   | none=>rw[hp]at h1; simp at h1
   | some e =>
    rw[hp]at h1
    simp only[Option.map_some,oIE]at h1
    subst h1
    refine K.put ?_
    rcases Tcr hp with he | rfl
    · exact ro_hs hr.1 he
    · exact fun q hq=>by simp at hq
theorem KeepP.pinned {h:List (Nat×Ob)}(K:KeepP pins h0 h){d:Nat}(hd:d∈pins):pinned h d=true:=by
 unfold AM.pinned
 rw[K.p]
 simpa using hd
theorem KeepP.same {h h':List (Nat×Ob)}(K:KeepP pins h0 h)(h9:get h' 999999=get h 999999)(hd:∀ d∈pins,get h' d=get h d):KeepP pins h0 h':= ⟨h9.trans K.p,fun d hm=> ⟨(K.k d hm).1,by rw[hd d hm]; exact(K.k d hm).2⟩⟩
theorem KeepP.ren1 (K:KeepP pins h0 s.h)(n:Nat):KeepP pins h0 (AM.ren1 s n).h:=by
 unfold AM.ren1
 split
 case h_2=>exact K
 rename_i v hv
 split
 case h_2=>exact K
 rename_i d hd
 split
 · exact K
 split
 case h_2=>exact K
 rename_i o hn ho
 split
 case isFalse=>exact K
 rename_i hc
 obtain⟨_,hn8,hlv,hpn,_,_⟩:=hc
 have hget:∀ e,get (AM.put (s.h.filter fun q=>q.1 !=d) n o) e=if n=e then some o else if e=d then none else get s.h e:=by
  intro e
  rw[Tbf]
  split
  · rfl
  · have:=Tcd (fun x=>x !=d) s.h e
    rw[this]
    by_cases he:e=d<;> simp[he]
 refine K.same ?_ fun e he=> ?_
 · show get (AM.put (s.h.filter fun q=>q.1 !=d) n o) 999999=_
   have h9: (999999:Nat)≠d:=fun h=>by
    rw[← h,K.p]at ho
    rw[← oIj ho]at hlv
    simp[Ob.live]at hlv
   rw[hget,if_neg (by omega),if_neg h9]
 · show get (AM.put (s.h.filter fun q=>q.1 !=d) n o) e=_
   have h1:n≠e:=fun h=>by
    obtain⟨q1,q2⟩:=K.k e he
    rw[h]at hn
    exact q1 (q2.none_iff.2 hn)
   have h2:e≠d:=fun h=>by
    rw[h]at he
    rw[K.pinned he]at hpn
    simp at hpn
   rw[hget,if_neg h1,if_neg h2]
theorem KeepP.norm (K:KeepP pins h0 s.h)(keep:List Nat):KeepP pins h0 (AM.norm keep s).h:=by
 unfold AM.norm
 have h1:KeepP pins h0 (⟨keepT keep s.t,gc (keepT keep s.t) s.h⟩:St).h:=by
  have hg:∀ d,get (gc (keepT keep s.t) s.h) d=if((keepT keep s.t).any (fun r=>r.2.ref d)|| (s.h.any fun r=>r.2.ref d)||AM.pinned s.h d||d == 999999)then get s.h d else none:=fun d=>Tcd (fun d=> ((keepT keep s.t).any fun r=>r.2.ref d)|| (s.h.any fun r=>r.2.ref d)||AM.pinned s.h d||d == 999999) s.h d
  refine K.same ?_ fun d hd=> ?_
  · show get (gc (keepT keep s.t) s.h) 999999=_
    rw[hg]; simp
  · show get (gc (keepT keep s.t) s.h) d=_
    rw[hg,K.pinned hd]; simp
 have:∀(l:List Nat) {s:St},KeepP pins h0 s.h->KeepP pins h0 (l.foldl AM.ren1 s).h:=by
  intro l
  induction l with
  | nil=>intro s K; exact K
  | cons n l ih=>intro s K; exact ih (K.ren1 n)
 exact this keep h1
theorem Tdz {E:Env}:∀(k:Nat) {c:ACode} {s s':St} {o:Out},c.ro=true->code E k c s=some (o,s')->KeepP pins h0 s.h->KeepP pins h0 s'.h
 | 0,_,_,_,_,_,h,_=>by simp[code]at h
 | k +1,c,s,s',o,hr,h,K=>by
  cases c with
  | skip=>rw[Tsi]at h; simp only[oIE,Prod.mk.injEq]at h; obtain⟨_,rfl⟩:=h; exact K
  | ex i=>rw[c_ex]at h; simp only[oIE,Prod.mk.injEq]at h; obtain⟨_,rfl⟩:=h; exact K
  | ret=>rw[c_ret]at h; simp only[oIE,Prod.mk.injEq]at h; obtain⟨_,rfl⟩:=h; exact K
  | reg ops keep =>
   rw[c_reg]at h
   cases h1:steps (AM.call E k) ops s with
   | none=>rw[h1]at h; simp at h
   | some s1 =>
    rw[h1]at h
    simp only[oIE,Prod.mk.injEq]at h
    obtain⟨_,rfl⟩:=h
    exact(To2 hr h1 K).norm keep
  | regf ops keep fz=>simp[ACode.ro]at hr
  | loopc keep a=>simp[ACode.ro]at hr
  | seq a b =>
   simp only[ACode.ro,Bool.and_eq_true]at hr
   rw[c_seq]at h
   cases h1:code E k a s with
   | none=>rw[h1]at h; simp at h
   | some y =>
    obtain⟨o1,s1⟩:=y
    rw[h1]at h
    have K1:=Tdz k hr.1 h1 K
    cases o1 with
    | nor=>exact Tdz k hr.2 h K1
    | ex i=>simp only[oIE,Prod.mk.injEq]at h; obtain⟨_,rfl⟩:=h; exact K1
    | ret=>simp only[oIE,Prod.mk.injEq]at h; obtain⟨_,rfl⟩:=h; exact K1
  | ite x a b =>
   simp only[ACode.ro,Bool.and_eq_true]at hr
   rw[c_ite]at h
   split at h
   · split at h
     · exact Tdz k hr.1 h K
     · exact Tdz k hr.2 h K
   · simp at h
  | blk i a =>
   rw[c_blk]at h
   cases h1:code E k a s with
   | none=>rw[h1]at h; simp at h
   | some y =>
    obtain⟨o1,s1⟩:=y
    rw[h1]at h
    have K1:=Tdz k (by simpa[ACode.ro]using hr) h1 K
    cases o1 with
    | nor=>simp only[oIE,Prod.mk.injEq]at h; obtain⟨_,rfl⟩:=h; exact K1
    | ex j =>
     dsimp only at h
     split at h
     · simp only[oIE,Prod.mk.injEq]at h; obtain⟨_,rfl⟩:=h; exact K1
     · simp only[oIE,Prod.mk.injEq]at h; obtain⟨_,rfl⟩:=h; exact K1
    | ret=>simp only[oIE,Prod.mk.injEq]at h; obtain⟨_,rfl⟩:=h; exact K1
  | loop keep a =>
   rw[Tk7]at h
   cases h1:code E k a (AM.norm keep s)with
   | none=>rw[h1]at h; simp at h
   | some y =>
    obtain⟨o1,s1⟩:=y
    rw[h1]at h
    have K1:=Tdz k (by simpa[ACode.ro]using hr) h1 (K.norm keep)
    cases o1 with
    | nor=>exact Tdz k hr h K1
    | ex i=>simp only[oIE,Prod.mk.injEq]at h; obtain⟨_,rfl⟩:=h; exact K1
    | ret=>simp only[oIE,Prod.mk.injEq]at h; obtain⟨_,rfl⟩:=h; exact K1
end
theorem T1a {E:Env}{k:Nat}{c:ACode}{vs:List SV}{h:List (Nat×Ob)}{o:Out}{s':St}(hr:c.ro=true)(hk:okK h 0=true)(hl:h.length<=1000)(hc:code E k c (startS vs h)=some (o,s'))(hfz:sameFz h s'.h=true):∀ d,get h d≠none->get s'.h d=get h d:=by
 have hlt:∀ d,get h d≠none->d<h.length:=fun d hd=>by have:= (Tcn hk d).1 hd; omega
 have hkeys:h.map (fun q=>q.1)=List.range h.length:=by rw[Te9 hk,List.range_eq_range']
 have K:KeepP (List.range h.length) h s'.h:=by
  refine Tdz k hr hc ⟨?_,fun d hd=> ?_⟩
  · show get (AM.put h 999999 (.pin (h.map fun q=>q.1))) 999999=_
    rw[Tac,hkeys]
  · have hd':d<h.length:=by simpa using hd
    refine⟨(Tcn hk d).2 (by omega),?_⟩
    show Fz _ (get (AM.put h 999999 (.pin (h.map fun q=>q.1))) d)
    rw[Tae _ (by omega)]
    exact Fz.refl _
 intro d hd
 obtain⟨_,q2⟩:=K.k d (by simpa using hlt d hd)
 rcases q2.two with⟨e,n,fz,fz',l,h1,h2⟩ | ⟨h1,_⟩
 · have:=List.all_eq_true.1 hfz _ (Tdm h1)
   dsimp only at this
   rw[h2]at this
   simp only[beq_iff_eq]at this
   rw[h1,h2,this]
 · exact h1.symm
end Go.Proofs.YtjpibniecllafaaGreat.AM
end
