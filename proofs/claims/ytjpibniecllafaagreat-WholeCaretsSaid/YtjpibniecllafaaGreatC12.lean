/- Made by pack.py: VR4, VR5, VR6, RH, RH2, RH3, RH4, AE, AY1, AY, AE2, AR15, AR16, AR17, AR18, AR19, AR20, AR21, AR22, AR23, AR24, AR25, AR26, AR27, AR28, AR29, AR30, AR31. No condition but what each says. -/
import Derived.Test.YtjpibniecllafaaGreatC11
import Derived.Laws.CopyOwn
import Derived.Deep.RegionLaw
import Derived.Test.YtjpibniecllafaaGreatC5
import Derived.Test.YtjpibniecllafaaGreatC10
import Derived.Test.YtjpibniecllafaaGreatC3
set_option linter.unusedSimpArgs false
set_option linter.unusedVariables false
set_option maxHeartbeats 16000000
section
namespace Go.Proofs.YtjpibniecllafaaGreat.AM
open Go Go.RowKit Go.Maps Go.Proofs Go.Sort Go.Shelf
attribute [local go_sem ↓] Go.wp_at_zero Go.wp_at_succ
theorem Tl7 (l:List Int):intKeys (keyL l)=l:=by
 simp[intKeys,keyL,Function.comp_def,Go.intOf]
theorem Tnm {l ss:List Int}(h:l.Pairwise (· < ·))(hp:ss.Perm l):ss.mergeSort (fun x y=>decide (x<=y))=l:=by
 rw[mergeSort_of_perm_i hp]
 exact List.mergeSort_of_pairwise (h.imp fun hab=>by simp only[leI,decide_eq_true_eq]; omega)
theorem Tun (m:Nat):AnyZI.SortsIn Tryz.prog Tryz.msorted_ren Fence.wide m :=
  ⟨fun blk off cap ss W hH hblk hsz=>callsIn_wide.2 (AnyM.slices_Sort_int Tryz.msort blk off cap ss W hH hblk hsz),
   fun p cap W=>callsIn_wide.2 (AnyM.slices_Sort_int_none Tryz.msort p cap W)⟩
theorem Tx9 (m:Nat)(W:World):Calls Tryz.prog 203 #[.map (some m)] W fun e w'=>e= .returned (.func (.func 224) #[] #[.pointer (some ⟨W.heap.size,0,none⟩)])/\w'=W.alloc (.cells #[.map (some m)] 161) :=
 (callsIn_wide (n:=5)).1 (AnyZI.keys_in Tryz.mkeys Fence.wide 5 trivial rfl (some m) W)
theorem Tnn {l:List Int}(m:Nat)(W:World)(h:SetAt W m l):Calls Tryz.prog 202 #[.func (.func 224) #[] #[.pointer (some ⟨W.heap.size,0,none⟩)]] (W.alloc (.cells #[.map (some m)] 161)) fun e w'=>∃ v,e= .returned v/\w'.ownsRow W.heap.size 3 1 v l.length (l.map (Value.int .i64))/\Below W.heap.size W w':=by
 refine(callsIn_wide (n:=4)).1 ?_
 have hl60:=h.2.len
 have hseq:SeqGives Fence.wide 1 Tryz.prog 224 #[.pointer (some ⟨W.heap.size,0,none⟩)] encZ (fun ss=>ss.Perm (intKeys (keyL l))) (Maps.size (keyL l)) (W.alloc (.cells #[.map (some m)] 161)) :=
  AnyZI.keys_gives (ρ:=Tryz.mkeys_ren) {Tryz.mkeys with} Fence.wide _ trivial rfl (by omega) W.heap.size m 60 (keyL l) _ (by simp) (by simp) (by
   obtain⟨es,clock,hb,Ft,hs,hD⟩:=h.1
   exact⟨es,clock,(Below.heap_alloc _ _ m h.lt).trans hb,Ft,hs,hD⟩)
 have cS:=AnyZI.sorted_in Tryz.msorted Fence.wide 4 trivial trivial trivial trivial rfl (by omega) (Tun _) (enters_of Tryz.func223 (by kernel_rfl) rfl) 224 #[.pointer (some ⟨W.heap.size,0,none⟩)] trivial (enters_of Tryz.func224 (by kernel_rfl) rfl) _ _ (by rw[Te0]; simp only[maxLen]; omega) (by rw[Te0]; omega) _ hseq
 change CallsIn _ _ Tryz.prog 202 _ _ _ at cS
 refine cS.mono ?_
 rintro e w' ⟨v,ss,rfl,hp,hrow,_,hb⟩
 rw[Tl7]at hp
 have e1:=Tnm h.2.1 hp
 have e2:=hp.length_eq
 rw[e1,e2]at hrow
 exact⟨v,rfl,ownsRow_base_a hrow (by simp),((Below.refl _ W).alloc (Nat.le_refl _) _).trans (hb.mono (by simp))⟩
theorem Tya:∃ i,Tryz.prog.info? 3=some i/\i.zero=some (.int .i64 0)/\i.size=1/\i.bytes=8:=info_parts (by kernel_rfl)
section
variable {w:World}{B b ub cap mg mf:Nat}{um:List Nat}{U:List (List Int)}{fl:Int}{G F:List Int}
theorem Tuo {base:Nat}{l:List Int}{v:Value}(h:w.ownsRow base 3 1 v l.length (l.map (Value.int .i64))):∃ ad cp,v= .slice ad l.length cp/\ (0<l.length->∃ a',ad=some a'/\∀ j u,(l.map (Value.int .i64))[j]?=some u->w.cell? (a'.add j)=some u):=by
 rcases h.2 with⟨h1,h2⟩ | ⟨g,cp,cur,hv,_,h2,h3,_,h5,h6⟩
 · exact⟨none,0,by rw[h1,h2],fun h0=>by omega⟩
 · refine⟨_,cp,hv,fun _=> ⟨_,rfl,fun j u hu=> ?_⟩⟩
   have hj:j<l.length:=by simpa using(List.getElem?_eq_some_iff.1 hu).1
   have e1: (⟨g,0,none⟩:Addr).add j= ⟨g,j,none⟩:=by unfold Addr.add; split<;> simp_all
   rw[e1]
   rw[← h6,List.getElem?_take_of_lt (by omega),Array.getElem?_toList]at hu
   simp[World.cell?,h2,hu]
set_option maxRecDepth 100000 in
theorem Tq6 {m:Nat}{l:List Int}(h:SetAt w m l):Calls Tryz.prog 157 #[.map (some m)] w fun e w'=>∃ b',e= .returned (.slice (some ⟨b',0,none⟩) l.length l.length)/\w.heap.size<=b'/\w'.heap[b']?=some (.cells (l.map (Value.int .i64)).toArray 3 (0,0))/\Below w.heap.size w w':=by
 have hl60:=h.2.len
 have hsz:=Te0 l
 obtain⟨i,hi,hz,hi1,hby1⟩:=Tya
 have hlen:=h.1.len Tryz.underlying161 3
 rw[hsz]at hlen
 go_enter Tryz.func157,Tryz.ntmps157
 go_wp2_with (first | (at_make; refine wpList_make_full _ rfl _ _ _ rfl w.heap.size 3 i _ 1 Tryz.underlying30 hi hz hi1 _ _ _ _ l.length rfl rfl rfl rfl ?m1 ?m2 (Nat.le_refl _) ?_))
 case m1=>rw[hby1]; omega
 case m2=>simp only[maxLen]; omega
 intro w1 hown1 hg1
 have hb1:Below w.heap.size w w1:= ⟨hg1.os,hg1.tape,hg1.output,hg1.size,fun k hk=>hg1.block k hk (by simp)⟩
 have hs1:SetAt w1 m l:=h.keep (hb1.block m h.lt)
 obtain⟨cur,hc1,hc2⟩:∃ cur:List Value,w1.heap[w.heap.size]?=some (.cells cur.toArray 3 (0,0))/\cur.length=l.length:=by
  rcases hown1.2 with⟨h1,_⟩ | ⟨g,cp,cur,hv,_,h2,_,_,h3,_⟩
  · simp at h1
  · simp only[Value.slice.injEq,oIE,Addr.mk.injEq]at hv
    obtain⟨⟨rfl,_⟩,_,rfl⟩:=hv
    exact⟨cur.toList,by simpa using h2,by simpa using h3⟩
 have hw1:w.heap.size<w1.heap.size:= (Array.getElem?_eq_some_iff.1 hc1).1
 clear hown1 hlen
 generalize hgd:w.heap.size=gd at *
 go_wp2_with (first | (go_at_call 203; refine(Tx9 m w1).mono ?_; rintro e w2 ⟨rfl,rfl⟩) | (go_at_call 202; refine(Tnn m w1 hs1).mono ?_; rintro e w3 ⟨v,rfl,hrow,hb3⟩; obtain⟨ad,cp,rfl,hsrc⟩:=Tuo hrow) | (with_reducible refine wpList_copy_splice (w0:=w) rfl (.tmp 7) (.tmp 10) 30 30 rfl 3 Tryz.underlying30 ?q1 (some ⟨gd,0,none⟩) ad l.length l.length l.length cp rfl rfl gd 0 cur 3 ?q2 (l.map (Value.int .i64)) ?q3 ?q4 ?q5 ?q6 gd ?q7 (Nat.le_refl _) ?_))
 case q1=>rw[hi]; simp[hi1]
 case q2=>exact(hb3.block gd hw1).trans hc1
 case q3=>simp
 case q4 =>
  intro h0
  obtain⟨a1,h1,h2⟩:=hsrc (by simpa using h0)
  first | exact⟨rfl,a1,h1,h2⟩ | exact⟨a1,h1,h2⟩ | exact⟨a1,h1,fun j x hx=>h2 j _ (by rw[List.getElem?_map,hx]; rfl)⟩
 case q5=>simp[hc2]
 case q6=>simp[Value.oneCell']
 case q7=>exact hb1.trans (hb3.mono (by omega))
 intro w4 hh hb4
 go_wp2
 go_ret
 refine⟨gd,rfl,by omega,?_,by rw[hgd]; exact hb4⟩
 have hh':w4.heap[gd]?=some (.cells (splice cur 0 (l.map (Value.int .i64))).toArray 3 (0,0)):=hh
 rw[hh']
 simp[splice,hc2]
def UndPost (w:World)(U:List (List Int))(fl r:Int)(e:Ending)(w':World):Prop :=
      (¬ (fl<=r/\r<=fl+U.length-1)/\e= .returned (.slice none 0 0)/\Below w.heap.size w w') ∨
      ((fl<=r/\r<=fl+U.length-1)/\∃ b' l,U[(r-fl).toNat]?=some l/\e= .returned (.slice (some ⟨b',0,none⟩) l.length l.length)/\w.heap.size<=b'/\w'.heap[b']?=some (.cells (l.map (Value.int .i64)).toArray 3 (0,0))/\Below w.heap.size w w')
set_option maxRecDepth 100000 in
theorem Tq7 (h:RevM w B b ub cap mg mf um U fl G F)(r:Int) :
 Calls Tryz.prog 102 #[.pointer (some ⟨b,0,none⟩),.int .i64 r] w (UndPost w U fl r):=by
 have hL:=Tpj h r
 by_cases hr:fl<=r/\r<=fl+U.length-1
 · have f1: (decide (fl<=r)&&decide (r<=fl+U.length-1))=true:=by simp[hr]
   rw[f1]at hL
   obtain⟨k,hk⟩:∃ k:Nat,r=fl+k:= ⟨(r-fl).toNat,by omega⟩
   have hkU:k<U.length:=by omega
   have e1: (r-fl).toNat=k:=by omega
   have hm1:k<um.length:=by have:=h.len; omega
   have hm:=List.getElem?_eq_getElem hm1
   have hl:=List.getElem?_eq_getElem hkU
   have hs:= (h.sets k _ _ hm hl).2
   have c0:w.cell? ⟨b,0,none⟩=some (.slice (some ⟨ub,0,none⟩) U.length cap):=by simp[World.cell?,h.cells]
   have c1:w.cell? ⟨b,1,none⟩=some (.int .i64 fl):=by simp[World.cell?,h.cells]
   have c3:=h.at_ hm
   have hlt:=h.lt
   have hl':U[(r-fl).toNat]?=some U[k]:=by rw[e1]; exact hl
   clear hl
   generalize U[k]=l at *
   generalize um[k]=m at *
   have k2:=h.f0
   have k3:=h.le
   have hbb:= (hlt b (by simp)).2
   have hub:= (hlt ub (by simp)).2
   clear h hm hm1 hlt f1
   have hl:=hl'
   clear hl'
   obtain⟨n,hn⟩:∃ n,U.length=n:= ⟨_,rfl⟩
   rw[hn]at c0 hkU k3
   have i1:IntKind.i64.wrap (r-fl)= (k:Int):=by rw[wrapI _ (by omega) (by omega)]; omega
   have i2: (0:Int)<= (k:Int):=by omega
   have i3: (k:Int)< (n:Int):=by omega
   clear hk e1 k2 k3 hn
   go_enter Tryz.func102,Tryz.ntmps102
   go_wp2_with (go_at_call 151; refine hL.mono ?_; rintro e w1 ⟨rfl,hb⟩)
   have hC:∀ W:World,w1=W∨w1.drew=W->Calls Tryz.prog 157 #[.map (some m)] W fun e w'=>∃ b',e= .returned (.slice (some ⟨b',0,none⟩) l.length l.length)/\w'.cell? ⟨b,0,none⟩=some (.slice (some ⟨ub,0,none⟩) n cap)/\w'.cell? ⟨b,1,none⟩=some (.int .i64 fl)/\w'.cell? ⟨ub,k,none⟩=some (.map (some m))/\w.heap.size<=b'/\w'.heap[b']?=some (.cells (l.map (Value.int .i64)).toArray 3 (0,0))/\Below w.heap.size w w':=by
    intro W hW
    have e1:W.heap=w1.heap:=by rcases hW with rfl | rfl<;> rfl
    have e2:Below w.heap.size w W:=hW.elim (fun e=>e▸hb) (fun e=>e▸ ⟨hb.os,hb.tape,hb.output,hb.size,hb.block⟩)
    refine(Tq6 (hs.keep (e2.block m hs.lt))).mono ?_
    rintro e w' ⟨b',rfl,q1,q2,q3⟩
    have q4:Below w.heap.size w w':=e2.trans (q3.mono e2.size)
    exact⟨b',rfl,(World.cell?_of_block (q4.block b hbb)).trans c0,(World.cell?_of_block (q4.block b hbb)).trans c1,(World.cell?_of_block (q4.block ub hub)).trans c3,Nat.le_trans e2.size q1,q2,q4⟩
   have d0:= (World.cell?_of_block (hb.block b hbb)).trans c0
   have d1:= (World.cell?_of_block (a:= ⟨b,1,none⟩) (hb.block b hbb)).trans c1
   have d3:= (World.cell?_of_block (hb.block ub hub)).trans c3
   go_region_held3 (fun w'=>w'.cell? ⟨b,0,none⟩=some (.slice (some ⟨ub,0,none⟩) n cap)/\w'.cell? ⟨b,1,none⟩=some (.int .i64 fl)/\w'.cell? ⟨ub,k,none⟩=some (.map (some m))) (go_keep)
    (first | (go_at_call 157; refine(hC _ ?_).mono ?_; (simp); rintro e w2 ⟨b',rfl,q0,q1,q3,q5,q6,q7⟩))
   all_goals go_wp2
   go_ret
   exact .inr ⟨hr,b',l,hl,rfl,q5,q6,q7⟩
 · have f1: (decide (fl<=r)&&decide (r<=fl+U.length-1))=false:=by simp; omega
   rw[f1]at hL
   clear h
   go_enter Tryz.func102,Tryz.ntmps102
   go_wp2_with (go_at_call 151; refine hL.mono ?_; rintro e w1 ⟨rfl,hb⟩)
   go_ret
   exact .inl ⟨hr,rfl,hb⟩
end
end Go.Proofs.YtjpibniecllafaaGreat.AM
end
section
namespace Go.Proofs.YtjpibniecllafaaGreat.AM
open Go Go.RowKit Go.Maps Go.Proofs
attribute [local go_sem ↓] Go.wp_at_zero Go.wp_at_succ
structure AsR (p:Prop):Prop where
 out:p
def intVR:Value->Int
 | .int _ a=>a
 | _=>0
structure CopyI (w W:World) (c mg mf:Nat) (U:List (List Int)) (fl:Int) (G F:List Int) (i:Nat) (v:Value) (um:List Nat):Prop where
 cells:W.heap[c]?=some (.cells #[v,.int .i64 fl,.map (some mg),.map (some mf)] 164 (0,0))
 row:W.ownsRow w.heap.size 161 1 v i (um.map fun m=> .map (some m))
 sets:∀(j m:Nat) (l:List Int),um[j]?=some m->U[j]?=some l->w.heap.size<=m/\SetAt W m l
 gset:SetAt W mg G
 fset:SetAt W mf F
 lo:∀ k∈c::mg::mf::um,w.heap.size<=k/\k<W.heap.size
 nd: (c::mg::mf::um).Nodup
 ap:∀ x,v.ownBlock=some x->x∉c::mg::mf::um
 below:Below w.heap.size w W
theorem CopyI.len {w W:World}{c mg mf:Nat}{U:List (List Int)}{fl:Int}{G F:List Int}{i:Nat}{v:Value}{um:List Nat}(h:CopyI w W c mg mf U fl G F i v um):um.length=i:=by
 have:=h.row.1
 simpa using this
theorem CopyI.done {w W:World}{c mg mf:Nat}{U:List (List Int)}{fl:Int}{G F:List Int}{v:Value}{um:List Nat}(h:CopyI w W c mg mf U fl G F U.length v um)(h1:1<=U.length)(h2:0<=fl)(h3:fl+U.length<=201) :
 ∃ ub cap,RevM W w.heap.size c ub cap mg mf um U fl G F:=by
 have row:=h.row
 rcases row.2 with⟨_,q⟩ | ⟨g,cap,cur,rfl,q⟩
 · omega
 · exact⟨g,cap,h1,h2,h3,(h.lo c (by simp)).1,h.cells,row,h.len,h.sets,(h.lo mg (by simp)).1,(h.lo mf (by simp)).1,h.gset,h.fset,List.nodup_cons.2 ⟨h.ap g rfl,h.nd⟩⟩
theorem CopyI.row1 {w W w1:World}{c mg mf:Nat}{U:List (List Int)}{fl:Int}{G F:List Int}{i:Nat}{v:Value}{um:List Nat}(h:CopyI w W c mg mf U fl G F i v um)(hb1:Below W.heap.size W w1):w1.ownsRow w.heap.size 161 1 v i (um.map fun m=> .map (some m)):=by
 refine⟨h.row.1,?_⟩
 rcases h.row.2 with q | ⟨g,cap,cur,hv,q1,q2,q3⟩
 · exact .inl q
 · exact .inr ⟨g,cap,cur,hv,q1,(hb1.block g (Array.getElem?_eq_some_iff.1 q2).1).trans q2,q3⟩
theorem CopyI.step {w W w1 w3:World}{c mg mf:Nat}{U:List (List Int)}{fl:Int}{G F:List Int}{i:Nat}{v:Value}{um:List Nat}(h:CopyI w W c mg mf U fl G F i v um){l:List Int}(hl:U[i]?=some l)
 (hs:SetAt w1 W.heap.size l) (hlt:W.heap.size<w1.heap.size) (hb1:Below W.heap.size W w1) {g cap:Nat}
 (hown:w3.ownsRow w.heap.size 161 1 (.slice (some ⟨g,0,none⟩) (i+1) cap) (i+1) ((um.map fun m=> .map (some m))++ [.map (some W.heap.size)]))
 {X:Obj} (hgrow: (w1.alloc X).grownBy w3 v.ownBlock) (hat:v.ownBlock=some g∨g=w1.heap.size+1) :
 CopyI w (w3.setCell ⟨c,0,none⟩ (.slice (some ⟨g,0,none⟩) (i+1) cap)) c mg mf U fl G F (i+1) (.slice (some ⟨g,0,none⟩) (i+1) cap) (um++ [W.heap.size]):=by
 have e0: (w1.alloc X).heap.size=w1.heap.size+1:=by simp
 have hsz:=hgrow.size
 have hcl:=h.lo c (by simp)
 have old:∀ k,k<w1.heap.size->v.ownBlock≠some k->w3.heap[k]?=w1.heap[k]?:=fun k hk hne=> (hgrow.block k (by rw[e0]; omega) (fun e=>hne e.symm)).trans (Lib.alloc_old w1 _ k hk)
 have old2:∀ k∈c::mg::mf::um,w3.heap[k]?=W.heap[k]?:=fun k hk=> (old k (by have:= (h.lo k hk).2; omega) fun e=>h.ap k e hk).trans (hb1.block k (h.lo k hk).2)
 have hgc:g∉c::mg::mf::um:=by
  rcases hat with h1 | h1
  · exact h.ap g h1
  · intro hm; have:= (h.lo g hm).2; omega
 have ho:∀ k,k≠c-> (w3.setCell ⟨c,0,none⟩ (.slice (some ⟨g,0,none⟩) (i+1) cap)).heap[k]?=w3.heap[k]?:=fun k hk=>heap_setCell_other w3 ⟨c,0,none⟩ k _ hk
 have hnd:=h.nd
 have vb:∀ x,v.ownBlock=some x->w.heap.size<=x/\x<W.heap.size:=by
  intro x hx
  rcases h.row.2 with⟨q,_⟩ | ⟨g',cp,cur,rfl,q1,q2,_⟩
  · rw[q]at hx; simp[Value.ownBlock]at hx
  · simp[Value.ownBlock]at hx; subst hx; exact⟨q1,(Array.getElem?_eq_some_iff.1 q2).1⟩
 have gne:g≠c:=fun e=>hgc (by simp[e])
 refine⟨?_,?_,?_,?_,?_,?_,?_,?_,?_⟩
 · have:=heap_setCell_same w3 c 0 _ _ (.slice (some ⟨g,0,none⟩) (i+1) cap) ((old2 c (by simp)).trans h.cells)
   simpa using this
 · have:=ownsRow_setCell_other (a:= ⟨c,0,none⟩) hown (by simpa[Value.ownBlock]using gne) (.slice (some ⟨g,0,none⟩) (i+1) cap)
   simpa using this
 · intro j m l' h1 h2
   by_cases hj:j<i
   · rw[List.getElem?_append_left (by rw[h.len]; omega)]at h1
     have hm:=List.mem_of_getElem? h1
     have:=h.sets j m l' h1 h2
     have hmem:m∈c::mg::mf::um:=by simp[hm]
     exact⟨this.1,this.2.keep ((ho m (by rintro rfl; simp[hm]at hnd)).trans (old2 m hmem))⟩
   · have hji:j=i:=by
      have:= (List.getElem?_eq_some_iff.1 h1).1
      simp[h.len]at this; omega
     subst hji
     rw[List.getElem?_append_right (by rw[h.len]; omega)]at h1
     simp[h.len]at h1
     rw[hl]at h2
     obtain rfl:=oIj h2
     subst h1
     exact⟨h.below.size,hs.keep ((ho _ (by omega)).trans (old _ hlt fun e=>by have:= (vb _ e).2; omega))⟩
 · exact h.gset.keep ((ho mg (by rintro rfl; simp at hnd)).trans (old2 mg (by simp)))
 · exact h.fset.keep ((ho mf (by rintro rfl; simp at hnd)).trans (old2 mf (by simp)))
 · intro k hk
   have e5:c::mg::mf:: (um++ [W.heap.size])= (c::mg::mf::um)++ [W.heap.size]:=rfl
   rw[e5]at hk
   rcases List.mem_append.1 hk with hk | hk
   · have:=h.lo k hk
     simp; omega
   · simp at hk
     have:=h.below.size
     simp; omega
 · have e5:c::mg::mf:: (um++ [W.heap.size])= (c::mg::mf::um)++ [W.heap.size]:=rfl
   rw[e5,List.nodup_append]
   refine⟨hnd,by simp,fun x hx y hy=> ?_⟩
   simp at hy
   have:= (h.lo x hx).2
   omega
 · intro x hx
   simp[Value.ownBlock]at hx
   subst hx
   have e5:c::mg::mf:: (um++ [W.heap.size])= (c::mg::mf::um)++ [W.heap.size]:=rfl
   rw[e5]
   intro hm
   rcases List.mem_append.1 hm with hm | hm
   · exact hgc hm
   · simp at hm
     rcases hat with h1 | h1
     · have:= (vb g h1).2; omega
     · omega
 · have hbs:=h.below.size
   have hb1s:=hb1.size
   refine⟨?_,?_,?_,by simp; omega,fun k hk=> (ho k (by omega)).trans ((old k (by omega) fun e=>by have:= (vb k e).1; omega).trans ((hb1.block k (by omega)).trans (h.below.block k hk)))⟩
   · exact(hgrow.os).trans (hb1.os.trans h.below.os)
   · exact(hgrow.tape).trans (hb1.tape.trans h.below.tape)
   · exact(hgrow.output).trans (hb1.output.trans h.below.output)
section
variable {w:World}{B b ub cap mg mf:Nat}{um:List Nat}{U:List (List Int)}{fl:Int}{G F:List Int}
set_option maxRecDepth 100000 in
theorem Tyb (h:RevM w B b ub cap mg mf um U fl G F) :
 Calls Tryz.prog 97 #[.pointer (some ⟨b,0,none⟩)] w fun e w'=>∃ b' ub' cap' mg' mf' um',e= .returned (.pointer (some ⟨b',0,none⟩))/\RevM w' w.heap.size b' ub' cap' mg' mf' um' U fl G F/\Below w.heap.size w w':=by
 have c0:w.cell? ⟨b,0,none⟩=some (.slice (some ⟨ub,0,none⟩) U.length cap):=by simp[World.cell?,h.cells]
 have c1:w.cell? ⟨b,1,none⟩=some (.int .i64 fl):=by simp[World.cell?,h.cells]
 have c2:w.cell? ⟨b,2,none⟩=some (.map (some mg)):=by simp[World.cell?,h.cells]
 have c3:w.cell? ⟨b,3,none⟩=some (.map (some mf)):=by simp[World.cell?,h.cells]
 have hlt:=h.lt
 have hbb:= (hlt b (by simp)).2
 have hub:= (hlt ub (by simp)).2
 have hcl:∀(m:Nat) (l:List Int),SetAt w m l->∀ W:World,Below w.heap.size w W->Calls Tryz.prog 154 #[.map (some m)] W fun e w'=>e= .returned (.map (some W.heap.size))/\w'.cell? ⟨b,1,none⟩=some (.int .i64 fl)/\w'.cell? ⟨b,2,none⟩=some (.map (some mg))/\w'.cell? ⟨b,3,none⟩=some (.map (some mf))/\SetAt w' W.heap.size l/\W.heap.size<w'.heap.size/\Below W.heap.size W w'/\Below w.heap.size w w':=by
  intro m l hs W hW
  refine(Tf6 W (hs.keep (hW.block m hs.lt))).mono ?_
  rintro e w' ⟨rfl,q1,q2,q3⟩
  have q4:Below w.heap.size w w':=hW.trans (q3.mono hW.size)
  exact⟨rfl,(World.cell?_of_block (q4.block b hbb)).trans c1,(World.cell?_of_block (q4.block b hbb)).trans c2,(World.cell?_of_block (q4.block b hbb)).trans c3,q1,q2,q3,q4⟩
 have hG:=hcl mg G h.gset
 have hF:=hcl mf F h.fset
 go_enter Tryz.func97,Tryz.ntmps97
 go_wp2
 go_region_held3 (fun w'=>w'.cell? ⟨b,1,none⟩=some (.int .i64 fl)/\w'.cell? ⟨b,2,none⟩=some (.map (some mg))/\w'.cell? ⟨b,3,none⟩=some (.map (some mf))) (go_keep)
  (first | (go_at_call 154; refine(hG _ ?_).mono ?_; (first | assumption | exact⟨rfl,rfl,rfl,Nat.le_refl _,fun _ _=>rfl⟩); rintro e w1 ⟨rfl,p1,p2,p3,p4,p5,p6,p7⟩) | (go_at_call 154; refine(hF _ ?_).mono ?_; (first | assumption | exact⟨rfl,rfl,rfl,Nat.le_refl _,fun _ _=>rfl⟩); rintro e w2 ⟨rfl,q1,q2,q3,q4,q5,q6,q7⟩))
 have a0:CopyI w (w2.alloc (.cells #[.slice none 0 0,.int .i64 fl,.map (some w.heap.size),.map (some w1.heap.size)] 164)) w2.heap.size w.heap.size w1.heap.size U fl G F 0 (.slice none 0 0) []:=by
  have p4':SetAt w1 w.heap.size G:=p4
  have p5':w.heap.size<w1.heap.size:=p5
  have keep:∀ k,k<w2.heap.size-> (w2.alloc (.cells #[.slice none 0 0,.int .i64 fl,.map (some w.heap.size),.map (some w1.heap.size)] 164)).heap[k]?=w2.heap[k]?:=fun k hk=>Lib.alloc_old w2 _ k hk
  refine⟨heap_alloc_new w2 _,⟨rfl,.inl ⟨rfl,rfl⟩⟩,fun j m l h1=>by simp at h1,p4'.keep ((keep _ (by omega)).trans (q6.block _ p5')),q4.keep (keep _ q5),?_,?_,fun x hx=>by simp[Value.ownBlock]at hx,q7.trans ((Below.refl _ _).alloc q7.size _)⟩
  · intro k hk
    simp at hk
    simp
    omega
  · simp; omega
 have hkU:=h.len
 have n1:=h.n1
 have f0:=h.f0
 have le:=h.le
 have hsets:=h.sets
 have hat:=fun(i m:Nat) (hm:um[i]?=some m)=>h.at_ hm
 clear h hG hF hcl p1 p2 p3 q1 q2 q3
 generalize hc:w2.heap.size=c at *
 generalize w.heap.size=z0 at a0
 generalize w1.heap.size=z1 at a0
 obtain⟨W0,hW0⟩:∃ W0,w2.alloc (.cells #[.slice none 0 0,.int .i64 fl,.map (some z0),.map (some z1)] 164)=W0:= ⟨_,rfl⟩
 rw[hW0]at a0 ⊢
 clear hW0 hc p4 p5 p6 p7 q4 q5 q6 q7
 have d0:W0.cell? ⟨b,0,none⟩=some (.slice (some ⟨ub,0,none⟩) U.length cap):= (World.cell?_of_block (a0.below.block b hbb)).trans c0
 obtain⟨n,hn⟩:∃ n,U.length=n:= ⟨_,rfl⟩
 rw[hn]at c0 d0 hkU n1 le
 obtain⟨i,z,hi,hz,hi1,hby1,hzs⟩:=Tbp Tzl
 go_wp2
 go_loopw [27] (fun vi wr=>∃ i:Nat,vi= .int .i64 i/\AsR (i<=n)/\AsR (∃ v um',CopyI w wr c z0 z1 U fl G F i v um')) (fun vi _=>n- (intVR vi).toNat)
 case atStart=>exact⟨0,rfl,⟨by omega⟩,⟨_,_,a0⟩⟩
 case round =>
  obtain⟨j,rfl,hj,hI⟩:=hrel
  obtain⟨v,um',hI⟩:=hI.out
  by_cases hjn:j<n
  · have i2: (0:Int)<= (j:Int):=by omega
    have i3: (j:Int)< (n:Int):=by omega
    have hum:um[j]?=some um[j]:=List.getElem?_eq_getElem (by omega)
    have hU:U[j]?=some U[j]:=List.getElem?_eq_getElem (by omega)
    have hs:= (hsets j _ _ hum hU).2
    have hlm:=hlt um[j] (by simp)
    have g1:= (World.cell?_of_block (a:= ⟨ub,j,none⟩) (hI.below.block ub hub)).trans (hat j _ hum)
    clear hum
    have hU':=hU
    clear hU
    generalize U[j]=l at *
    generalize um[j]=m at *
    obtain⟨ad,cp,rfl⟩:∃ ad cp,v= .slice ad j cp:=by
     rcases hI.row.2 with⟨h1,h2⟩ | ⟨g,cp,cur,h1,_⟩
     · exact⟨none,0,by rw[h1,h2]⟩
     · exact⟨_,cp,h1⟩
    have g0:wr.cell? ⟨c,0,none⟩=some (.slice ad j cp):=by simp[World.cell?,hI.cells]
    have g00:wr.frozen? ⟨c,0,none⟩=false:=by simp[World.frozen?,hI.cells]
    have hcl:= (hI.lo c (by simp)).2
    have hap:some c≠ (Value.slice ad j cp).ownBlock:=fun e=>hI.ap c e.symm (by simp)
    have hC:∀ W:World,wr.drew=W->Calls Tryz.prog 154 #[.map (some m)] W fun e w'=>e= .returned (.map (some wr.heap.size))/\w'.cell? ⟨c,0,none⟩=some (.slice ad j cp)/\w'.frozen? ⟨c,0,none⟩=false/\SetAt w' wr.heap.size l/\wr.heap.size<w'.heap.size/\Below wr.heap.size wr w':=by
     rintro W rfl
     refine(Tf6 wr.drew ((hs.keep (hI.below.block m hs.lt)).keep rfl)).mono ?_
     rintro e w' ⟨rfl,q1,q2,q3⟩
     have q4:Below wr.heap.size wr w':= ⟨q3.os,q3.tape,q3.output,q3.size,q3.block⟩
     exact⟨rfl,(World.cell?_of_block (q4.block c hcl)).trans g0,(World.frozen?_of_block (q4.block c hcl)).trans g00,q1,q2,q4⟩
    have hby: (j+1)*8<=140737488355328:=by omega
    have h63:j+1<=maxLen:=by simp only[maxLen]; omega
    go_wp2
    go_region_law (first | (go_simp; refine(hC _ rfl).mono ?_; rintro e w1 ⟨rfl,q0,q00,q1,q2,q3⟩; have hq3:=q3.size; have hcw:c<w1.heap.size:= (by omega); have q0': (w1.alloc (.cells #[.map (some wr.heap.size)] 161)).cell? ⟨c,0,none⟩=some (.slice ad j cp):= (World.cell?_of_block (Lib.alloc_old w1 _ c hcw)).trans q0; have q00': (w1.alloc (.cells #[.map (some wr.heap.size)] 161)).frozen? ⟨c,0,none⟩=false:= (World.frozen?_of_block (Lib.alloc_old w1 _ c hcw)).trans q00; have hown1: (w1.alloc (.cells #[.map (some wr.heap.size)] 161)).ownsRow w.heap.size 161 1 (.slice ad j cp) j (um'.map fun m=> .map (some m)):= (hI.row1 q3).alloc _) | (refine step_append_lies _ (by rfl) _ _ _ (by rfl) w.heap.size 161 i z 1 8 Tryz.underlying162 hi hz hi1 hby1 hzs (by omega) _ j (um'.map fun m=> .map (some m)) (by rfl) hown1 ⟨w1.heap.size,0,none⟩ 1 1 [.map (some wr.heap.size)] (by rfl) (by rfl) (World.news_of_block (heap_alloc_new w1 _)) (by simp[Value.oneCell']) (by omega) h63 hby (by have:=hI.below.size; simp; omega) (w1.heap.size+1) (by simp) ?_; intro g cap' w3 hown hgrow hat' hlt3; have r0:w3.cell? ⟨c,0,none⟩=some (.slice ad j cp):= (hgrow.cell_far ⟨c,0,none⟩ (by simp; omega) hap).trans q0'; have r00:w3.frozen? ⟨c,0,none⟩=false:= (hgrow.frozen_far ⟨c,0,none⟩ (by simp; omega) hap).trans q00'))
    all_goals
     have hfin:=hI.step hU' q1 q2 q3 hown hgrow hat'
     have w1':IntKind.i64.wrap ((j:Int)+1)= ((j+1:Nat):Int):=by rw[wrapI _ (by omega) (by omega)]; omega
     go_wp2
     go_roundw
     case rel=>exact⟨j+1,by go_num,⟨by omega⟩,⟨_,_,hfin⟩⟩
     case measure=>simp[intVR]; omega
  · have hjn:j=n:=by have:=hj.out; omega
    subst hjn
    have hd:=hn▸hI
    obtain⟨ub',cap',hR⟩:=hd.done (by omega) f0 (by omega)
    go_wp2
    go_ret
    exact⟨c,ub',cap',z0,z1,um',rfl,hR,hI.below⟩
end
end Go.Proofs.YtjpibniecllafaaGreat.AM
end
section
namespace Go.Proofs.YtjpibniecllafaaGreat.AM
open Go Go.RowKit Go.Maps Go.Proofs
theorem Tyc (w:World):SetAt (w.alloc (.map #[] 0)) w.heap.size []:=SetAt.of (n:=0) (World.ownsMap_made w _ _ _) Grp.nil
theorem Th6 {w:World}{b:Nat}(h:w.heap[b]?=some (.map #[] 0)):SetAt w b []:=by
 obtain⟨⟨es,clock,h1,F,hs,hD⟩,hg⟩:=Tyc w
 rw[heap_alloc_new]at h1
 simp only[oIE,Obj.map.injEq]at h1
 obtain⟨rfl,rfl⟩:=h1
 exact⟨⟨#[],0,h,F,hs,hD⟩,hg⟩
set_option maxRecDepth 100000 in
theorem T1u (w:World):Calls Tryz.prog 50 #[] w fun e w'=>∃ b ub cap mg mf m,e= .returned (.pointer (some ⟨b,0,none⟩))/\RevM w' w.heap.size b ub cap mg mf [m] [[]] 0 [] []/\Below w.heap.size w w':=by
 have hmm:= @run_makeMap Tryz.prog
 go_enter Tryz.func50,Tryz.ntmps50
 go_wp2
 go_ret
 have al:∀(W:World) (o:Obj) (k:Nat),(W.alloc o).heap[k]?=if k=W.heap.size then some o else W.heap[k]?:=fun W o k=>by
  show(W.heap.push o)[k]?=_
  rw[Array.getElem?_push]
 have sz:∀(W:World) (o:Obj),(W.alloc o).heap.size=W.heap.size+1:=fun W o=>by simp
 refine⟨w.heap.size+4,w.heap.size+1,1,w.heap.size+2,w.heap.size+3,w.heap.size,?_,⟨by simp,by simp,by simp,by omega,?_,⟨rfl,.inr ⟨w.heap.size+1,1,#[.map (some w.heap.size)],rfl,by omega,?_,by simp,by simp[maxLen],by simp,by simp⟩⟩,rfl,?_,by omega,by omega,?_,?_,?_⟩,?_⟩
 · rfl
 · rw[al,if_pos (by simp only[sz])]; rfl
 · rw[al,if_neg (by simp only[sz]; omega),al,if_neg (by simp only[sz]; omega),al,if_neg (by simp only[sz]; omega),al,if_pos (by simp only[sz])]
 · intro i m l h1 h2
   obtain⟨rfl,rfl⟩:m=w.heap.size/\l= []:=by
    rcases i with _ | i
    · simp at h1 h2; exact⟨h1.symm,h2⟩
    · simp at h1
   exact⟨Nat.le_refl _,Th6 (by rw[al,if_neg (by simp only[sz]; omega),al,if_neg (by simp only[sz]; omega),al,if_neg (by simp only[sz]; omega),al,if_neg (by simp only[sz]; omega),al,if_pos rfl])⟩
 · exact Th6 (by rw[al,if_neg (by simp only[sz]; omega),al,if_neg (by simp only[sz]; omega),al,if_pos (by simp only[sz])])
 · exact Th6 (by rw[al,if_neg (by simp only[sz]; omega),al,if_pos (by simp only[sz])])
 · simp
 · exact((((((Below.refl _ w).alloc (Nat.le_refl _) _).alloc (by simp) _).alloc (by simp; omega) _).alloc (by simp; omega) _).alloc (by simp; omega) _)
end Go.Proofs.YtjpibniecllafaaGreat.AM
end
section
namespace Go.Proofs.YtjpibniecllafaaGreat.AM
open Go Go.RowKit
def revV (b ub cap n mg mf:Nat)(um:List Nat):Nat->Value
 | 0=> .pointer (some ⟨b,0,none⟩)
 | 1=> .slice (some ⟨ub,0,none⟩) n cap
 | 2=> .map (some mg)
 | 3=> .map (some mf)
 | i+4=> .map um[i]?
def RevG (g:Gs)(d b ub cap n mg mf:Nat)(um:List Nat):Prop:=∀ p,p<um.length+4->g.v (p*1000000+d)=revV b ub cap n mg mf um p
theorem T1v (d p:Nat):nid d p= (p+1)*1000000+d:=rfl
theorem Tpm {b ub cap n mg mf:Nat}{um:List Nat}{p k:Nat}(h:blk (revV b ub cap n mg mf um p)=some k): (b::ub::mg::mf::um)[p]?=some k:=by
 match p with
 | 0=>simpa[revV,blk]using h
 | 1=>simpa[revV,blk]using h
 | 2=>simpa[revV,blk]using h
 | 3=>simpa[revV,blk]using h
 | i+4 =>
  cases hm:um[i]? with
  | none=>simp[revV,blk,hm]at h
  | some m=>simpa[revV,blk,hm]using h
section
variable {w:World}{B b ub cap mg mf:Nat}{um:List Nat}{U:List (List Int)}{fl:Int}{G F:List Int}{g:Gs}{d:Nat}
theorem Tct (hG:RevG g d b ub cap U.length mg mf um)(hl:um.length=U.length){x k:Nat}(hx:Ids d (.mpo U fl G F) x)(hk:blk (g.v x)=some k):∃ p,x=p*1000000+d/\ (b::ub::mg::mf::um)[p]?=some k:=by
 rcases hx with rfl | ⟨e,k',l,p,e',k2,l',h,_⟩ | ⟨U',fl',G',F',p,h,hp,rfl⟩
 · refine⟨0,by omega,?_⟩
   have:=hG 0 (by omega)
   rw[show 0*1000000+x=x by omega]at this
   rw[this]at hk
   exact Tpm hk
 · simp at h
 · simp only[Ob.mpo.injEq]at h
   obtain⟨rfl,_⟩:=h
   rw[T1v]at hk ⊢
   rw[hG (p+1) (by omega)]at hk
   exact⟨p+1,rfl,Tpm hk⟩
theorem Tko (M:RevM w B b ub cap mg mf um U fl G F)(hG:RevG g d b ub cap U.length mg mf um)(hl:∀ k∈b::ub::mg::mf::um,g.lm k=0):RevAt w g B d U fl G F:=by
 have v0:=hG 0 (by omega)
 have v1:=hG 1 (by omega)
 have v2:=hG 2 (by omega)
 have v3:=hG 3 (by omega)
 rw[show 0*1000000+d=d by omega]at v0
 rw[show 1*1000000+d=nid d 0 by unfold nid; omega]at v1
 rw[show 2*1000000+d=nid d 1 by unfold nid; omega]at v2
 rw[show 3*1000000+d=nid d 2 by unfold nid; omega]at v3
 have v4:∀ i m:Nat,um[i]?=some m->g.v (nid d (3+i))= .map (some m):=fun i m hm=>by
  have:=hG (i+4) (by have:= (List.getElem?_eq_some_iff.1 hm).1; omega)
  rw[show(i+4)*1000000+d=nid d (3+i)by unfold nid; omega]at this
  rw[this]; simp[revV,hm]
 simp only[revV]at v0 v1 v2 v3
 refine⟨⟨M.n1,M.f0,M.le⟩,⟨b,v0,M.bb,hl b (by simp),by rw[v1,v2,v3]; exact M.cells⟩,⟨_,by rw[v1]; exact M.row,fun i u hu=> ?_⟩,fun k hk=> ?_,fun i l hi=> ?_,⟨mg,v2,M.gb,M.gset,hl mg (by simp)⟩,⟨mf,v3,M.fb,M.fset,hl mf (by simp)⟩⟩
 · rw[List.getElem?_map]at hu
   obtain⟨m,hm,rfl⟩:=Option.map_eq_some_iff.1 hu
   exact(v4 i m hm).symm
 · rw[v1]at hk
   simp[blk]at hk
   subst hk
   exact hl ub (by simp)
 · have hi':i<um.length:=by have:= (List.getElem?_eq_some_iff.1 hi).1; have:=M.len; omega
   have hm:=List.getElem?_eq_getElem hi'
   have:=M.sets i _ l hm hi
   exact⟨_,v4 i _ hm,this.1,this.2,hl _ (by simp)⟩
theorem Tup (R:RevAt w g B d U fl G F)(hap:∃ own:Nat->Nat,∀ x k,Ids d (.mpo U fl G F) x->blk (g.v x)=some k->own k=x):∃ b ub cap mg mf um,RevM w B b ub cap mg mf um U fl G F/\RevG g d b ub cap U.length mg mf um/\∀ k∈b::ub::mg::mf::um,g.lm k=0:=by
 obtain⟨⟨n1,f0,le⟩,⟨b,v0,bb,l0,cells⟩,⟨xs,row,hxs⟩,l1,hsets,⟨mg,v2,gb,gset,l2⟩,⟨mf,v3,fb,fset,l3⟩⟩:=R
 obtain⟨own,hown⟩:=hap
 obtain⟨ub,cap,v1⟩:∃ ub cap,g.v (nid d 0)= .slice (some ⟨ub,0,none⟩) U.length cap:=by
  rcases row.2 with⟨_,h⟩ | ⟨ub,cap,cur,h,_⟩
  · omega
  · exact⟨ub,cap,h⟩
 have hm:∀ i,i<U.length->∃ m,g.v (nid d (3+i))= .map (some m)/\g.lm m=0:=fun i hi=>by
  obtain⟨m,h1,_,_,h2⟩:=hsets i _ (List.getElem?_eq_getElem hi)
  exact⟨m,h1,h2⟩
 let bl:Value->Nat:=fun v=>match blk v with | some k=>k | none=>0
 let um:List Nat:= (List.range U.length).map fun i=>bl (g.v (nid d (3+i)))
 have hul:um.length=U.length:=by simp[um]
 have hum:∀ i m:Nat,um[i]?=some m->g.v (nid d (3+i))= .map (some m)/\i<U.length/\g.lm m=0:=fun i m h=>by
  have hi:i<U.length:=by have:= (List.getElem?_eq_some_iff.1 h).1; omega
  obtain⟨m',h1,h2⟩:=hm i hi
  have:um[i]?=some m':=by simp[um,hi,h1,bl,blk]
  rw[this]at h
  obtain rfl:=oIj h
  exact⟨h1,hi,h2⟩
 have hG:RevG g d b ub cap U.length mg mf um:=by
  intro p hp
  match p with
  | 0=>rw[show 0*1000000+d=d by omega]; exact v0
  | 1=>rw[show 1*1000000+d=nid d 0 by unfold nid; omega]; exact v1
  | 2=>rw[show 2*1000000+d=nid d 1 by unfold nid; omega]; exact v2
  | 3=>rw[show 3*1000000+d=nid d 2 by unfold nid; omega]; exact v3
  | i+4 =>
   rw[show(i+4)*1000000+d=nid d (3+i)by unfold nid; omega]
   have hi:i<um.length:=by omega
   have:=List.getElem?_eq_getElem hi
   rw[(hum i _ this).1]; simp[revV,this]
 have hinj:∀ p q k:Nat,(b::ub::mg::mf::um)[p]?=some k-> (b::ub::mg::mf::um)[q]?=some k->p=q:=by
  have key:∀ p k:Nat,(b::ub::mg::mf::um)[p]?=some k->own k=p*1000000+d:=by
   intro p k hp
   match p with
   | 0=>simp at hp; subst hp; rw[show 0*1000000+d=d by omega]; exact hown d _ (.self _ _) (by rw[v0]; rfl)
   | 1=>simp at hp; subst hp; rw[show 1*1000000+d=nid d 0 by unfold nid; omega]; exact hown _ _ (.mpo (by omega)) (by rw[v1]; rfl)
   | 2=>simp at hp; subst hp; rw[show 2*1000000+d=nid d 1 by unfold nid; omega]; exact hown _ _ (.mpo (by omega)) (by rw[v2]; rfl)
   | 3=>simp at hp; subst hp; rw[show 3*1000000+d=nid d 2 by unfold nid; omega]; exact hown _ _ (.mpo (by omega)) (by rw[v3]; rfl)
   | i+4 =>
    simp at hp
    rw[show(i+4)*1000000+d=nid d (3+i)by unfold nid; omega]
    have:=hum i k hp
    exact hown _ _ (.mpo (by omega)) (by rw[this.1]; rfl)
  intro p q k hp hq
  have:=key p k hp
  have:=key q k hq
  omega
 have hnd: (b::ub::mg::mf::um).Nodup:=by
  unfold List.Nodup
  rw[List.pairwise_iff_getElem]
  intro i j hi hj hij he
  have:=hinj i j _ (List.getElem?_eq_getElem hi) (by rw[he]; exact List.getElem?_eq_getElem hj)
  omega
 refine⟨b,ub,cap,mg,mf,um,⟨n1,f0,le,bb,by rw[← v1,← v2,← v3]; exact cells,?_,hul,fun i m l h1 h2=> ?_,gb,fb,gset,fset,?_⟩,hG,?_⟩
 · rw [← v1]
   have e:xs=um.map fun m=> .map (some m):=by
    apply List.ext_getElem?
    intro i
    have hxl:xs.length=U.length:=by simpa using row.1
    by_cases hi:i<U.length
    · have h1:xs[i]?=some xs[i]:=List.getElem?_eq_getElem (by omega)
      have h2:um[i]?=some um[i]:=List.getElem?_eq_getElem (by omega)
      rw[h1,hxs i _ h1,(hum i _ h2).1,List.getElem?_map,h2]; rfl
    · rw[List.getElem?_eq_none (by omega),List.getElem?_eq_none (by simp[hul]; omega)]
   rw[← e]; exact row
 · obtain⟨m',q1,q2,q3,_⟩:=hsets i l h2
   have:= (hum i m h1).1
   rw[q1]at this
   obtain rfl:m'=m:=by simpa using this
   exact⟨q2,q3⟩
 · exact((List.Perm.swap ub b (mg::mf::um)).nodup_iff).1 hnd
 · intro k hk
   simp only[List.mem_cons]at hk
   rcases hk with rfl | rfl | rfl | rfl | hk
   · exact l0
   · exact l1 k (by rw[v1]; rfl)
   · exact l2
   · exact l3
   · obtain⟨i,hi⟩:=List.mem_iff_getElem?.1 hk
     exact(hum i k hi).2.2
end
end Go.Proofs.YtjpibniecllafaaGreat.AM
end
section
namespace Go.Proofs.YtjpibniecllafaaGreat.AM
open Go Go.RowKit
theorem ap_of {h:List (Nat×Ob)}{g:Gs}(inj:∀ d o x d' o' x' b,get h d=some o->o.live=true->Ids d o x->blk (g.v x)=some b->get h d'=some o'->o'.live=true->Ids d' o' x'->blk (g.v x')=some b->x=x') :
 ∃ own:Nat->Nat,∀ d o x b,get h d=some o->o.live=true->Ids d o x->blk (g.v x)=some b->own b=x:=by
 classical
 refine⟨fun b=>if hh:∃ x d o,get h d=some o/\o.live=true/\Ids d o x/\blk (g.v x)=some b then hh.choose else 0,fun d o x b h1 h2 h3 h4=> ?_⟩
 have hh:∃ x d o,get h d=some o/\o.live=true/\Ids d o x/\blk (g.v x)=some b:= ⟨x,d,o,h1,h2,h3,h4⟩
 simp only
 rw[dif_pos hh]
 obtain⟨d',o',q1,q2,q3,q4⟩:=hh.choose_spec
 exact inj _ _ _ _ _ _ b q1 q2 q3 q4 h1 h2 h3 h4
def lmN (w:World)(lm:Nat->Nat):Nat->Nat:=fun b=>if b<w.heap.size then lm b else 0
def newG (g:Gs)(lm:Nat->Nat)(d:Nat)(vals:Nat->Value):Gs:= ⟨lm,fun x=>if x % 1000000=d then vals (x / 1000000)else g.v x⟩
theorem Tkp {g:Gs}{lm:Nat->Nat}{d b ub cap n mg mf:Nat}{um:List Nat}(hd:d<1000000):RevG (newG g lm d (revV b ub cap n mg mf um)) d b ub cap n mg mf um:=by
 intro p _
 show(if(p*1000000+d) % 1000000=d then revV b ub cap n mg mf um ((p*1000000+d) / 1000000)else _)=_
 rw[if_pos (by omega),show(p*1000000+d) / 1000000=p by omega]
theorem Tkq {L:List Nat}(h:L.Nodup){p q k:Nat}(hp:L[p]?=some k)(hq:L[q]?=some k):p=q:=by
 unfold List.Nodup at h
 rw[List.pairwise_iff_getElem]at h
 obtain⟨p1,p2⟩:=List.getElem?_eq_some_iff.1 hp
 obtain⟨q1,q2⟩:=List.getElem?_eq_some_iff.1 hq
 rcases Nat.lt_trichotomy p q with hl | hl | hl
 · exact absurd (p2.trans q2.symm) (h p q p1 q1 hl)
 · exact hl
 · exact absurd (q2.trans p2.symm) (h q p q1 p1 hl)
section
variable {w:World}{B b ub cap mg mf:Nat}{um:List Nat}{U:List (List Int)}{fl:Int}{G F:List Int}{g:Gs}
theorem RevM.nd' (M:RevM w B b ub cap mg mf um U fl G F): (b::ub::mg::mf::um).Nodup:= ((List.Perm.swap b ub (mg::mf::um)).nodup_iff).1 M.nd
theorem RevM.lt' (M:RevM w B b ub cap mg mf um U fl G F):∀ k∈b::ub::mg::mf::um,B<=k/\k<w.heap.size:=fun k hk=>M.lt k (((List.Perm.swap b ub (mg::mf::um)).mem_iff).2 hk)
theorem Td4 {o o':Ob}{d:Nat}(h:get [(0,o)] d=some o'):d=0/\o=o':=by
 simp only[get]at h
 split at h
 · exact⟨by simp_all,by simpa using h⟩
 · simp at h
theorem Tzm (M:RevM w B b ub cap mg mf um U fl G F)(hG:RevG g 0 b ub cap U.length mg mf um)(hl:∀ k∈b::ub::mg::mf::um,g.lm k=0):HS B g w [(0,.mpo U fl G F)]:=by
 refine⟨fun d o h=> ?_,fun d o h=> ?_,ap_of fun d o x d' o' x' k h1 _ h3 h4 h5 _ h7 h8=> ?_,fun d e k l xs h=> ?_⟩
 · obtain⟨rfl,rfl⟩:=Td4 h
   exact Tko M hG hl
 · obtain⟨rfl,_⟩:=Td4 h
   omega
 · obtain⟨rfl,rfl⟩:=Td4 h1
   obtain⟨rfl,rfl⟩:=Td4 h5
   obtain⟨p,rfl,hp⟩:=Tct hG M.len h3 h4
   obtain⟨q,rfl,hq⟩:=Tct hG M.len h7 h8
   rw[Tkq M.nd' hp hq]
 · obtain⟨_,h⟩:=Td4 h
   simp at h
theorem Tpn (M:RevM w B b ub cap mg mf um U fl G F)(hG:RevG g 0 b ub cap U.length mg mf um){k:Nat}(hk:k∉b::ub::mg::mf::um):Free g (get [(0,.mpo U fl G F)]) k:=by
 intro d o x h1 _ h3 h4
 obtain⟨rfl,rfl⟩:=Td4 h1
 obtain⟨p,_,hp⟩:=Tct hG M.len h3 h4
 exact hk (List.mem_of_getElem? hp)
theorem Tgi (hG:RevG g 0 b ub cap U.length mg mf um)(hl:um.length=U.length){k:Nat}(hk:k∈b::ub::mg::mf::um):¬ Free g (get [(0,.mpo U fl G F)]) k:=by
 intro hf
 obtain⟨p,hp⟩:=List.mem_iff_getElem?.1 hk
 have hpl:= (List.getElem?_eq_some_iff.1 hp).1
 simp at hpl
 refine hf 0 _ (p*1000000+0) rfl rfl ?_ ?_
 · rcases p with _ | p
   · exact Ids.self 0 _
   · exact Ids.mpo (p:=p) (by omega)
 · rw[hG p hpl]
   match p with
   | 0=>simpa[revV,blk]using hp
   | 1=>simpa[revV,blk]using hp
   | 2=>simpa[revV,blk]using hp
   | 3=>simpa[revV,blk]using hp
   | i+4=>simp at hp; simp[revV,blk,hp]
theorem Tbs {f:FuncId}{vs:List SV}{r:PV}{U':List (List Int)}{fl':Int}{G' F':List Int}
 (H:∀(w:World) (B:Nat) (g:Gs) (b ub cap mg mf:Nat) (um:List Nat) (us:List Value),RevM w B b ub cap mg mf um U fl G F->B<=w.heap.size->SRepL w g (get [(0,.mpo U fl G F)]) vs us ->
  Calls Tryz.prog f (.pointer (some ⟨b,0,none⟩)::us).toArray w fun e w'=>∃ u ub' cap' um' lm',e= .returned u/\ (∀ k,k<w.heap.size->lm' k=g.lm k)/\ (∀ k∈ub'::um',w.heap.size<=k->lm' k=0)/\Rep w' lm' r u/\RevM w' B b ub' cap' mg mf um' U' fl' G' F'/\ (∀ k∈ub'::um',k∈ub::um∨w.heap.size<=k)/\Tch w w' fun k=>k∈b::ub::mg::mf::um) :
 SharedOK Tryz.prog f [.hp (.mo 0::vs) [(0,.mpo U fl G F)]] (.p r) [(0,.mpo U' fl' G' F')]:=by
 intro vs0 h0 heq base w0 lmf g w us hs hrl K hK
 simp only[List.cons.injEq,PV.hp.injEq,and_true]at heq
 obtain⟨rfl,rfl⟩:=heq
 cases hrl with
 | cons hr0 hrl =>
 rename_i u0 us
 have e0:u0=g.v 0:=hr0
 have R:=hs.hs.ob 0 _ rfl
 obtain⟨b,ub,cap,mg,mf,um,M,hG,hl⟩:=Tup R (by
  obtain⟨own,h⟩:=hs.hs.ap
  exact⟨own,fun x k hx hk=>h 0 _ x k rfl rfl hx hk⟩)
 have hv0:g.v 0= .pointer (some ⟨b,0,none⟩):=by simpa[revV]using hG 0 (by omega)
 have hBw:base<=w.heap.size:=by rw[hs.bas]; exact hs.below.size
 rw[e0,hv0]
 refine(H w base g b ub cap mg mf um us M hBw hrl).mono ?_
 rintro e w' ⟨u,ub',cap',um',lm',rfl,hlm,hlm2,hrep,M',hnew,ht⟩
 have hsub:∀ k∈b::ub'::mg::mf::um',k∈b::ub::mg::mf::um∨w.heap.size<=k:=by
  intro k hk
  simp only[List.mem_cons]at hk ⊢
  rcases hk with rfl | rfl | rfl | rfl | hk
  · exact .inl (.inl rfl)
  · rcases hnew k (by simp)with h | h
    · simp only[List.mem_cons]at h
      rcases h with h | h
      · exact .inl (.inr (.inl h))
      · exact .inl (.inr (.inr (.inr (.inr h))))
    · exact .inr h
  · exact .inl (.inr (.inr (.inl rfl)))
  · exact .inl (.inr (.inr (.inr (.inl rfl))))
  · rcases hnew k (by simp[hk])with h | h
    · simp only[List.mem_cons]at h
      rcases h with h | h
      · exact .inl (.inr (.inl h))
      · exact .inl (.inr (.inr (.inr (.inr h))))
    · exact .inr h
 have hG':RevG (newG g lm' 0 (revV b ub' cap' U'.length mg mf um')) 0 b ub' cap' U'.length mg mf um':=Tkp (by omega)
 have hl':∀ k∈b::ub'::mg::mf::um',lm' k=0:=by
  intro k hk
  by_cases hkw:k<w.heap.size
  · rw[hlm k hkw]
    rcases hsub k hk with h | h
    · exact hl k h
    · omega
  · refine hlm2 k ?_ (by omega)
    simp only[List.mem_cons]at hk ⊢
    rcases hk with rfl | rfl | rfl | rfl | hk
    · exact absurd (M.lt' k (by simp)).2 hkw
    · exact .inl rfl
    · exact absurd (M.lt' k (by simp)).2 hkw
    · exact absurd (M.lt' k (by simp)).2 hkw
    · exact .inr hk
 have hext:Ext w g.lm w' lm':=Ext.blocks fun k hk h0=> ⟨ht.block k hk fun hm=>by have:=hl k hm; omega,hlm k hk⟩
 have hH:=Tzm (g:=newG g lm' 0 (revV b ub' cap' U'.length mg mf um')) M' hG' hl'
 refine⟨u,newG g lm' 0 (revV b ub' cap' U'.length mg mf um'),rfl,⟨hs.bas,?_,fun k hk=> (hlm k (by omega)).trans (hs.lm k hk),hH⟩,hrep,hext,ht.size,fun k hk=> ?_,fun v1 u1 h1=> ?_⟩
 · exact⟨ht.os.trans hs.below.os,ht.tape.trans hs.below.tape,ht.output.trans hs.below.output,Nat.le_trans hs.below.size ht.size,fun k hk=> (ht.block k (by omega) fun hm=>by have:= (M.lt' k hm).1; omega).trans (hs.below.block k hk)⟩
 · obtain⟨q1,q2⟩:=hK k hk
   have q3:k∉b::ub::mg::mf::um:=fun hm=>Tgi hG M.len hm q2
   exact⟨ht.block k q1 q3,hlm k q1,Tpn M' hG' fun hm=>by
    rcases hsub k hm with h | h
    · exact q3 h
    · omega⟩
 · have:=SRep.mapr (w':=w') (g':=newG g lm' 0 (revV b ub' cap' U'.length mg mf um')) (h':=get [(0,.mpo U' fl' G' F')]) (f:=fun e=>e) hext (fun e _ o ho=>by
    obtain⟨rfl,rfl⟩:=Td4 ho
    refine⟨.mpo U' fl' G' F',rfl,trivial,?_⟩
    have e1:=hG' 0 (by omega)
    rw[Nat.zero_mul,Nat.zero_add]at e1
    rw[e1,hv0]; rfl) h1
   rwa[SV.mapr_id (f:=fun e=>e) (fun _ _=>rfl)]at this
end
end Go.Proofs.YtjpibniecllafaaGreat.AM
end
section
namespace Go.Proofs.YtjpibniecllafaaGreat.AM
open Go Go.RowKit
variable {U:List (List Int)}{fl:Int}{G F:List Int}
theorem Tbn (w:World)(lm:Nat->Nat):∀ k,k<w.heap.size->lmN w lm k=lm k:=fun k hk=>if_pos hk
theorem Tcu (w:World)(lm:Nat->Nat){k:Nat}(hk:w.heap.size<=k):lmN w lm k=0:=if_neg (by omega)
theorem T1w:SharedOK Tryz.prog 59 [.hp [.mo 0] [(0,.mpo U fl G F)]] (.p (pi (fl+U.length-1))) [(0,.mpo U fl G F)]:=by
 refine Tbs (vs:= []) fun w B g b ub cap mg mf um us M hB hr=> ?_
 cases hr
 refine(Tee M).mono ?_
 rintro e w' ⟨rfl,hb⟩
 exact⟨_,ub,cap,um,lmN w g.lm,rfl,Tbn w _,fun k _ hk=>Tcu w _ hk,.sc _,M.below hb,fun k hk=> .inl hk,Tch.of hb⟩
theorem T1x (r:Int):SharedOK Tryz.prog 151 [.hp [.mo 0,.p (pi r)] [(0,.mpo U fl G F)]] (.p (pb (decide (fl<=r)&&decide (r<=fl+U.length-1)))) [(0,.mpo U fl G F)]:=by
 refine Tbs (vs:= [.p (pi r)]) fun w B g b ub cap mg mf um us M hB hr=> ?_
 cases hr with
 | cons h1 hr =>
 cases hr
 cases h1
 refine(Tpj M r).mono ?_
 rintro e w' ⟨rfl,hb⟩
 exact⟨_,ub,cap,um,lmN w g.lm,rfl,Tbn w _,fun k _ hk=>Tcu w _ hk,.sc _,M.below hb,fun k hk=> .inl hk,Tch.of hb⟩
theorem Tl8 (w:World)(lm:Nat->Nat):∀ l:List Int,RepL w lm (ints l).flatten (l.map (Value.int .i64))
 | []=> .nil
 | x::l=> .cons (.sc _) (Tl8 w lm l)
theorem Tuq (r:Int):SharedOK Tryz.prog 102 [.hp [.mo 0,.p (pi r)] [(0,.mpo U fl G F)]] (.p (.sl 1 (if fl<=r/\r<=fl+U.length-1 then ints (U.getD (r-fl).toNat [])else[]))) [(0,.mpo U fl G F)]:=by
 refine Tbs (vs:= [.p (pi r)]) fun w B g b ub cap mg mf um us M hB hr=> ?_
 cases hr with
 | cons h1 hr =>
 cases hr
 cases h1
 refine(Tq7 M r).mono ?_
 rintro e w' (⟨h0,rfl,hb⟩ | ⟨h0,b',l,hl,rfl,hb',hh,hb⟩)
 · rw[if_neg h0]
   exact⟨_,ub,cap,um,lmN w g.lm,rfl,Tbn w _,fun k _ hk=>Tcu w _ hk,.sl0,M.below hb,fun k hk=> .inl hk,Tch.of hb⟩
 · rw [if_pos h0]
   have e1:U.getD (r-fl).toNat []=l:=by rw[List.getD_eq_getElem?_getD,hl]; rfl
   rw[e1]
   have hil: (ints l).length=l.length:=by simp[ints]
   refine⟨_,ub,cap,um,fun k=>if k=b' then l.length else lmN w g.lm k,rfl,fun k hk=> ?_,fun k hk hk2=> ?_,?_,M.below hb,fun k hk=> .inl hk,Tch.of hb⟩
   · show(if k=b' then _ else _)=_
     rw[if_neg (by omega)]; exact Tbn w _ k hk
   · exfalso
     have:= (M.lt' k (by
      simp only[List.mem_cons]at hk ⊢
      rcases hk with h | h
      · exact .inr (.inl h)
      · exact .inr (.inr (.inr (.inr h))))).2
     omega
   · have hc:w'.heap[b']?=some (.cells (l.map (Value.int .i64)).toArray 3 (0,0)):=hh
     have:=Rep.sl (w:=w') (lm:=fun k=>if k=b' then l.length else lmN w g.lm k) (k:=1) (l:=ints l) (vs:=l.map (Value.int .i64)) (b:=b') (o:=0) (cap:=l.length) (by omega) (fun c hc=>by simp[ints]at hc; obtain⟨a,_,rfl⟩:=hc; rfl) (Tl8 _ _ l) (fun j u hu=>by
      have hj:j<l.length:=by simpa using(List.getElem?_eq_some_iff.1 hu).1
      refine⟨by rw[Nat.zero_add]; simp only[World.cell?,hc]; simpa using hu,?_,?_⟩
      · show 0+j< (if b'=b' then l.length else _)
        rw[if_pos rfl]; omega
      · rw[List.getElem?_map]at hu
        obtain⟨x,_,rfl⟩:=Option.map_eq_some_iff.1 hu
        rfl) (by omega)
     rw[hil]at this
     exact this
theorem Tur {w:World}{ub ub' m:Nat}{um:List Nat}(h1:ub'=ub∨w.heap.size<=ub')(h2:w.heap.size<=m):∀ k∈ub':: (um++ [m]),k∈ub::um∨w.heap.size<=k:=by
 intro k hk
 simp only[List.mem_cons,List.mem_append,List.not_mem_nil,or_false]at hk ⊢
 rcases hk with rfl | hk | rfl
 · rcases h1 with rfl | h1
   · exact .inl (.inl rfl)
   · exact .inr h1
 · exact .inl (.inr hk)
 · exact .inr h2
theorem Tf8 (w:World)(lm:Nat->Nat)(a c:Int):Rep w lm (.tu [pi a,pi c]) (.tuple #[.int .i64 a,.int .i64 c]):= .tu (vs:= [.int .i64 a,.int .i64 c]) (.cons (.sc _) (.cons (.sc _) .nil))
theorem T3v (x:Int)(hx:inR x)(v:SV)(h':List (Nat×Ob))(hr:revAdd U fl G F x= .shr v h'):SharedOK Tryz.prog 54 [.hp [.mo 0,.p (pi x)] [(0,.mpo U fl G F)]] v h':=by
 unfold revAdd revO at hr
 by_cases c1:x∈F∨x<0∨60<=x
 · rw[if_pos c1]at hr
   obtain⟨rfl,rfl⟩:=Ret.shr.inj hr
   refine Tbs (vs:= [.p (pi x)]) fun w B g b ub cap mg mf um us M hB hr=> ?_
   cases hr with
   | cons h1 hr =>
   cases hr
   cases h1
   refine(Tnl M hB x hx.1 hx.2).mono ?_
   rintro e w' (⟨_,rfl,hb⟩ | ⟨h0,_⟩ | ⟨h0,_⟩)
   · exact⟨_,ub,cap,um,lmN w g.lm,rfl,Tbn w _,fun k _ hk=>Tcu w _ hk,Tf8 _ _ _ _,M.below hb,fun k hk=> .inl hk,Tch.of hb⟩
   · exact absurd c1 h0
   · exact absurd c1 h0
 rw[if_neg c1]at hr
 by_cases c2:200<=fl+ (U.length:Int)-1
 · rw[if_pos c2]at hr
   obtain⟨rfl,rfl⟩:=Ret.shr.inj hr
   refine Tbs (vs:= [.p (pi x)]) fun w B g b ub cap mg mf um us M hB hr=> ?_
   cases hr with
   | cons h1 hr =>
   cases hr
   cases h1
   refine(Tnl M hB x hx.1 hx.2).mono ?_
   rintro e w' (⟨h0,_⟩ | ⟨_,_,rfl,hb⟩ | ⟨_,h0,_⟩)
   · exact absurd h0 c1
   · exact⟨_,ub,cap,um,lmN w g.lm,rfl,Tbn w _,fun k _ hk=>Tcu w _ hk,Tf8 _ _ _ _,M.below hb,fun k hk=> .inl hk,Tch.of hb⟩
   · exact absurd c2 h0
 · rw[if_neg c2]at hr
   obtain⟨rfl,rfl⟩:=Ret.shr.inj hr
   refine Tbs (vs:= [.p (pi x)]) fun w B g b ub cap mg mf um us M hB hr=> ?_
   cases hr with
   | cons h1 hr =>
   cases hr
   cases h1
   refine(Tnl M hB x hx.1 hx.2).mono ?_
   rintro e w' (⟨h0,_⟩ | ⟨_,h0,_⟩ | ⟨_,_,m,ub',cap',rfl,M',hm,hub,ht⟩)
   · exact absurd h0 c1
   · exact absurd h0 c2
   · exact⟨_,ub',cap',_,lmN w g.lm,rfl,Tbn w _,fun k _ hk=>Tcu w _ hk,Tf8 _ _ _ _,M',Tur hub hm,ht.mono fun k _ hk=>by rcases hk with rfl | rfl | rfl<;> simp⟩
theorem Tus (x:Int)(hx:inR x)(v:SV)(h':List (Nat×Ob))(hr:revToggle U fl G F x= .shr v h'):SharedOK Tryz.prog 62 [.hp [.mo 0,.p (pi x)] [(0,.mpo U fl G F)]] v h':=by
 unfold revToggle revO at hr
 by_cases c1:x∉G
 · rw[if_pos c1]at hr
   obtain⟨rfl,rfl⟩:=Ret.shr.inj hr
   refine Tbs (vs:= [.p (pi x)]) fun w B g b ub cap mg mf um us M hB hr=> ?_
   cases hr with
   | cons h1 hr =>
   cases hr
   cases h1
   refine(Tf7 M hB x hx.1 hx.2).mono ?_
   rintro e w' (⟨_,rfl,hb⟩ | ⟨h0,_⟩ | ⟨h0,_⟩)
   · exact⟨_,ub,cap,um,lmN w g.lm,rfl,Tbn w _,fun k _ hk=>Tcu w _ hk,Tf8 _ _ _ _,M.below hb,fun k hk=> .inl hk,Tch.of hb⟩
   · exact absurd h0 c1
   · exact absurd h0 c1
 rw[if_neg c1]at hr
 by_cases c2:200<=fl+ (U.length:Int)-1
 · rw[if_pos c2]at hr
   obtain⟨rfl,rfl⟩:=Ret.shr.inj hr
   refine Tbs (vs:= [.p (pi x)]) fun w B g b ub cap mg mf um us M hB hr=> ?_
   cases hr with
   | cons h1 hr =>
   cases hr
   cases h1
   refine(Tf7 M hB x hx.1 hx.2).mono ?_
   rintro e w' (⟨h0,_⟩ | ⟨_,_,rfl,hb⟩ | ⟨_,h0,_⟩)
   · exact absurd h0 c1
   · exact⟨_,ub,cap,um,lmN w g.lm,rfl,Tbn w _,fun k _ hk=>Tcu w _ hk,Tf8 _ _ _ _,M.below hb,fun k hk=> .inl hk,Tch.of hb⟩
   · exact absurd c2 h0
 · rw[if_neg c2]at hr
   obtain⟨rfl,rfl⟩:=Ret.shr.inj hr
   refine Tbs (vs:= [.p (pi x)]) fun w B g b ub cap mg mf um us M hB hr=> ?_
   cases hr with
   | cons h1 hr =>
   cases hr
   cases h1
   refine(Tf7 M hB x hx.1 hx.2).mono ?_
   rintro e w' (⟨h0,_⟩ | ⟨_,h0,_⟩ | ⟨_,_,m,ub',cap',rfl,M',hm,hub,ht⟩)
   · exact absurd h0 c1
   · exact absurd h0 c2
   · exact⟨_,ub',cap',_,lmN w g.lm,rfl,Tbn w _,fun k _ hk=>Tcu w _ hk,Tf8 _ _ _ _,M',Tur hub hm,ht.mono fun k _ hk=>by rcases hk with rfl | rfl<;> simp⟩
theorem RevM.base {w:World}{B B' b ub cap mg mf:Nat}{um:List Nat}(h:RevM w B b ub cap mg mf um U fl G F)(hB:B'<=B):RevM w B' b ub cap mg mf um U fl G F :=
 ⟨h.n1,h.f0,h.le,Nat.le_trans hB h.bb,h.cells,ownsRow_base_a h.row hB,h.len,fun i m l h1 h2=> ⟨Nat.le_trans hB (h.sets i m l h1 h2).1,(h.sets i m l h1 h2).2⟩,Nat.le_trans hB h.gb,Nat.le_trans hB h.fb,h.gset,h.fset,h.nd⟩
theorem T3w:SharedOK Tryz.prog 50 [.hp [] []] (.mo 0) [(0,.mpo [[]] 0 [] [])]:=by
 intro vs0 h0 heq base w0 lmf g w us hs hrl K hK
 simp only[List.cons.injEq,PV.hp.injEq,and_true]at heq
 obtain⟨rfl,rfl⟩:=heq
 cases hrl
 refine(T1u w).mono ?_
 rintro e w' ⟨b,ub,cap,mg,mf,m,rfl,M,hb⟩
 have hBw:base<=w.heap.size:=by rw[hs.bas]; exact hs.below.size
 have M':=M.base hBw
 have hG:RevG (newG g (lmN w g.lm) 0 (revV b ub cap [([]:List Int)].length mg mf [m])) 0 b ub cap [([]:List Int)].length mg mf [m]:=Tkp (by omega)
 have hl:∀ k∈b::ub::mg::mf:: [m],lmN w g.lm k=0:=fun k hk=>Tcu w _ (M.lt' k hk).1
 have hext:Ext w g.lm w' (lmN w g.lm):=Ext.of_below hb (Tbn w _)
 refine⟨_,newG g (lmN w g.lm) 0 (revV b ub cap [([]:List Int)].length mg mf [m]),rfl,⟨hs.bas,hs.below.trans (hb.mono hBw),fun k hk=> (Tbn w _ k (by omega)).trans (hs.lm k hk),Tzm M' hG hl⟩,?_,hext,hb.size,fun k hk=> ?_,fun v1 u1 h1=> ?_⟩
 · have e1:=hG 0 (by omega)
   rw[Nat.zero_mul,Nat.zero_add]at e1
   show Value.pointer (some ⟨b,0,none⟩)=_
   rw[e1]; rfl
 · obtain⟨q1,_⟩:=hK k hk
   exact⟨hb.block k q1,Tbn w _ k q1,Tpn M' hG fun hm=>by have:= (M.lt' k hm).1; omega⟩
 · have:=SRep.mapr (w':=w') (g':=newG g (lmN w g.lm) 0 (revV b ub cap [([]:List Int)].length mg mf [m])) (h':=get [(0,.mpo [[]] 0 [] [])]) (f:=fun e=>e) hext (fun e _ o ho=>by simp[get]at ho) h1
   rwa[SV.mapr_id (f:=fun e=>e) (fun _ _=>rfl)]at this
theorem Teu {o0 o1 o:Ob}{d:Nat}(h:get [(0,o0),(1,o1)] d=some o): (d=0/\o0=o)∨ (d=1/\o1=o):=by
 simp only[get]at h
 split at h
 · exact .inl ⟨by simp_all,by simpa using h⟩
 split at h
 · exact .inr ⟨by simp_all,by simpa using h⟩
 · simp at h
theorem Tyd:SharedOK Tryz.prog 97 [.hp [.mo 0] [(0,.mpo U fl G F)]] (.mo 1) [(0,.mpo U fl G F),(1,.mpo U fl G F)]:=by
 intro vs0 h0 heq base w0 lmf g w us hs hrl K hK
 simp only[List.cons.injEq,PV.hp.injEq,and_true]at heq
 obtain⟨rfl,rfl⟩:=heq
 cases hrl with
 | cons hr0 hrl =>
 cases hrl
 rename_i u0
 have e0:u0=g.v 0:=hr0
 obtain⟨b,ub,cap,mg,mf,um,M,hG,hl⟩:=Tup (hs.hs.ob 0 _ rfl) (by
  obtain⟨own,h⟩:=hs.hs.ap
  exact⟨own,fun x k hx hk=>h 0 _ x k rfl rfl hx hk⟩)
 have hv0:g.v 0= .pointer (some ⟨b,0,none⟩):=by simpa[revV]using hG 0 (by omega)
 have hBw:base<=w.heap.size:=by rw[hs.bas]; exact hs.below.size
 rw[e0,hv0]
 refine(Tyb M).mono ?_
 rintro e w' ⟨b',ub',cap',mg',mf',um',rfl,M1,hb⟩
 have M0:=M.below hb
 have M1':=M1.base hBw
 have hG0:RevG (newG g (lmN w g.lm) 1 (revV b' ub' cap' U.length mg' mf' um')) 0 b ub cap U.length mg mf um:=by
  intro p hp
  show(if(p*1000000+0) % 1000000=1 then _ else g.v (p*1000000+0))=_
  rw[if_neg (by omega)]; exact hG p hp
 have hG1:RevG (newG g (lmN w g.lm) 1 (revV b' ub' cap' U.length mg' mf' um')) 1 b' ub' cap' U.length mg' mf' um':=Tkp (by omega)
 have hl0:∀ k∈b::ub::mg::mf::um,lmN w g.lm k=0:=fun k hk=> (Tbn w _ k (M.lt' k hk).2).trans (hl k hk)
 have hl1:∀ k∈b'::ub'::mg'::mf'::um',lmN w g.lm k=0:=fun k hk=>Tcu w _ (M1.lt' k hk).1
 have hext:Ext w g.lm w' (lmN w g.lm):=Ext.of_below hb (Tbn w _)
 have hv0': (newG g (lmN w g.lm) 1 (revV b' ub' cap' U.length mg' mf' um')).v 0=g.v 0:=by
  simp[newG]
 have hH:HS base (newG g (lmN w g.lm) 1 (revV b' ub' cap' U.length mg' mf' um')) w' [(0,.mpo U fl G F),(1,.mpo U fl G F)]:=by
  refine⟨fun d o h=> ?_,fun d o h=> ?_,ap_of fun d o x d' o' x' k h1 _ h3 h4 h5 _ h7 h8=> ?_,fun d e k l xs h=> ?_⟩
  · rcases Teu h with⟨rfl,rfl⟩ | ⟨rfl,rfl⟩
    · exact Tko M0 hG0 hl0
    · exact Tko M1' hG1 hl1
  · rcases Teu h with⟨rfl,_⟩ | ⟨rfl,_⟩<;> omega
  · rcases Teu h1 with⟨rfl,rfl⟩ | ⟨rfl,rfl⟩
    · obtain⟨p,rfl,hp⟩:=Tct hG0 M0.len h3 h4
      rcases Teu h5 with⟨rfl,rfl⟩ | ⟨rfl,rfl⟩
      · obtain⟨q,rfl,hq⟩:=Tct hG0 M0.len h7 h8
        rw[Tkq M0.nd' hp hq]
      · obtain⟨q,rfl,hq⟩:=Tct hG1 M1.len h7 h8
        have a1:= (M.lt' k (List.mem_of_getElem? hp)).2
        have a2:= (M1.lt' k (List.mem_of_getElem? hq)).1
        omega
    · obtain⟨p,rfl,hp⟩:=Tct hG1 M1.len h3 h4
      rcases Teu h5 with⟨rfl,rfl⟩ | ⟨rfl,rfl⟩
      · obtain⟨q,rfl,hq⟩:=Tct hG0 M0.len h7 h8
        have a1:= (M.lt' k (List.mem_of_getElem? hq)).2
        have a2:= (M1.lt' k (List.mem_of_getElem? hp)).1
        omega
      · obtain⟨q,rfl,hq⟩:=Tct hG1 M1.len h7 h8
        rw[Tkq M1.nd' hp hq]
  · rcases Teu h with⟨_,h⟩ | ⟨_,h⟩<;> simp at h
 refine⟨_,newG g (lmN w g.lm) 1 (revV b' ub' cap' U.length mg' mf' um'),rfl,⟨hs.bas,hs.below.trans (hb.mono hBw),fun k hk=> (Tbn w _ k (by omega)).trans (hs.lm k hk),hH⟩,?_,hext,hb.size,fun k hk=> ?_,fun v1 u1 h1=> ?_⟩
 · have e1:=hG1 0 (by omega)
   rw[Nat.zero_mul,Nat.zero_add]at e1
   show Value.pointer (some ⟨b',0,none⟩)=_
   rw[e1]; rfl
 · obtain⟨q1,q2⟩:=hK k hk
   refine⟨hb.block k q1,Tbn w _ k q1,fun d o x h1 _ h3 h4=> ?_⟩
   rcases Teu h1 with⟨rfl,rfl⟩ | ⟨rfl,rfl⟩
   · obtain⟨p,_,hp⟩:=Tct hG0 M0.len h3 h4
     exact Tgi hG M.len (List.mem_of_getElem? hp) q2
   · obtain⟨p,_,hp⟩:=Tct hG1 M1.len h3 h4
     have:= (M1.lt' k (List.mem_of_getElem? hp)).1
     omega
 · have:=SRep.mapr (w':=w') (g':=newG g (lmN w g.lm) 1 (revV b' ub' cap' U.length mg' mf' um')) (h':=get [(0,.mpo U fl G F),(1,.mpo U fl G F)]) (f:=fun e=>e) hext (fun e _ o ho=>by
    obtain⟨rfl,rfl⟩:=Td4 ho
    exact⟨.mpo U fl G F,rfl,trivial,hv0'⟩) h1
   rwa[SV.mapr_id (f:=fun e=>e) (fun _ _=>rfl)]at this
end Go.Proofs.YtjpibniecllafaaGreat.AM
end
section
namespace Go.Proofs.YtjpibniecllafaaGreat.AM
open Go.RowKit
theorem T1y:Callable Tryz.prog 85:= ⟨_,Tryz.func85,by decide +kernel,by kernel_rfl⟩
theorem T1z:Callable Tryz.prog 208:= ⟨_,Tryz.func208,by decide +kernel,by kernel_rfl⟩
theorem T10:Callable Tryz.prog 86:= ⟨_,Tryz.func86,by decide +kernel,by kernel_rfl⟩
theorem T11:Callable Tryz.prog 220:= ⟨_,Tryz.func220,by decide +kernel,by kernel_rfl⟩
theorem T12:Callable Tryz.prog 43:= ⟨_,Tryz.func43,by decide +kernel,by kernel_rfl⟩
theorem T13:Callable Tryz.prog 106:= ⟨_,Tryz.func106,by decide +kernel,by kernel_rfl⟩
theorem T14:Callable Tryz.prog 180:= ⟨_,Tryz.func180,by decide +kernel,by kernel_rfl⟩
theorem T15:Callable Tryz.prog 84:= ⟨_,Tryz.func84,by decide +kernel,by kernel_rfl⟩
theorem T16:Callable Tryz.prog 50:= ⟨_,Tryz.func50,by decide +kernel,by kernel_rfl⟩
theorem T17:Callable Tryz.prog 59:= ⟨_,Tryz.func59,by decide +kernel,by kernel_rfl⟩
theorem T18:Callable Tryz.prog 151:= ⟨_,Tryz.func151,by decide +kernel,by kernel_rfl⟩
theorem T19:Callable Tryz.prog 102:= ⟨_,Tryz.func102,by decide +kernel,by kernel_rfl⟩
theorem T2a:Callable Tryz.prog 97:= ⟨_,Tryz.func97,by decide +kernel,by kernel_rfl⟩
theorem T2b:Callable Tryz.prog 54:= ⟨_,Tryz.func54,by decide +kernel,by kernel_rfl⟩
theorem T2c:Callable Tryz.prog 62:= ⟨_,Tryz.func62,by decide +kernel,by kernel_rfl⟩
theorem Tye {f:FuncId}{vs:List SV}{h h':List (Nat×Ob)}{v:SV}(k:SharedOK Tryz.prog f [.hp vs h] v (h++h')):SharedNew Tryz.prog f [.hp vs h] v h':=by
 intro vs' h0 heq
 simp only[List.cons.injEq,PV.hp.injEq,and_true]at heq
 obtain⟨rfl,rfl⟩:=heq
 exact k
theorem Tl9 {F f:FuncId}(hF:F-2000000=f){vs:List SV}{h h':List (Nat×Ob)}{v:SV}(hc:Callable Tryz.prog f)(k:SharedOK Tryz.prog f [.hp vs h] v (h++h')):CallOK Tryz.prog F [.hp vs h] (.shn v h')/\Callable Tryz.prog (realF F (.shn v h')):=by
 rw[Tfs,Thh,hF]
 exact⟨Tye k,hc⟩
theorem Tzn {F f:FuncId}(hF:F-1000000=f){args:List PV}{h':List (Nat×Ob)}{v:SV}(hc:Callable Tryz.prog f)(k:SharedOK Tryz.prog f args v h'):CallOK Tryz.prog F args (.shr v h')/\Callable Tryz.prog (realF F (.shr v h')):=by
 rw[Tfr,Thg,hF]
 exact⟨k,hc⟩
theorem Tq8 (U:List (List Int))(fl:Int)(G F:List Int)(g:Int):∃ v h',revAdd U fl G F g= .shr v h':=by
 unfold revAdd
 split
 · exact⟨_,_,rfl⟩
 split
 · exact⟨_,_,rfl⟩
 · exact⟨_,_,rfl⟩
theorem Tkr (U:List (List Int))(fl:Int)(G F:List Int)(g:Int):∃ v h',revToggle U fl G F g= .shr v h':=by
 unfold revToggle
 split
 · exact⟨_,_,rfl⟩
 split
 · exact⟨_,_,rfl⟩
 · exact⟨_,_,rfl⟩
theorem Taz {p:Prop}[Decidable p]{a b:Option Ret}{r:Ret}(h: (if p then a else b)=some r): (p/\a=some r)∨ (¬ p/\b=some r):=by
 by_cases hp:p
 · rw[if_pos hp]at h; exact .inl ⟨hp,h⟩
 · rw[if_neg hp]at h; exact .inr ⟨hp,h⟩
theorem sbok1:CallOK Tryz.prog 85 [] (.sb 1 145 5):=show SbOK _ 1 _ _ _ from by simpa[SbOK]using sbWrite
theorem sbok3:CallOK Tryz.prog 208 [] (.sb 3 145 5):=show SbOK _ 3 _ _ _ from by simpa[SbOK]using sbRune
theorem sbok2:CallOK Tryz.prog 86 [] (.sb 2 145 5):=show SbOK _ 2 _ _ _ from by simpa[SbOK]using sbString
theorem Ta8 {r:Ret}{C:Prop}(h: (none:Option Ret)=some r):C:=by cases h
theorem Tff {x r:Ret}{args:List PV}(h: (match args with | []=>some x | _=>none)=some r):args= []/\x=r:=by
 cases args with
 | nil=>exact⟨rfl,oIj h⟩
 | cons a l=>exact Ta8 h
theorem Th7 {T:TypeId}{args:List PV}{r:Ret}(h:cloneF T args=some r):∃ l,args= [.sl 2 l]/\ (∀ c∈l,c.length=2)/\l.length*16<=140737488355328/\r= .own T 2 l:=by
 unfold cloneF at h
 split at h
 · rename_i l
   rcases Taz h with⟨hc,h⟩ | ⟨_,h⟩
   · exact⟨l,rfl,hc.1,hc.2,(oIj h).symm⟩
   · exact Ta8 h
 · exact Ta8 h
theorem Tyf {args:List PV}{r:Ret}(h: (match args with | [.st [x]]=> (match allF x with | some l=>some (.own 153 1 (l.map fun s=> [PV.sc (.string s)])) | none=>none) | _=>none)=some r):∃ x l,args= [.st [x]]/\allF x=some l/\r= .own 153 1 (l.map fun s=> [PV.sc (.string s)]):=by
 split at h
 · rename_i x
   cases hx:allF x with
   | none=>rw[hx]at h; exact Ta8 h
   | some l=>rw[hx]at h; exact⟨x,l,rfl,hx,(oIj h).symm⟩
 · exact Ta8 h
theorem Tq9 {args:List PV}{r:Ret}(h:revNewF args=some r):CallOK Tryz.prog 2000050 args r/\Callable Tryz.prog (realF 2000050 r):=by
 unfold revNewF at h
 split at h
 · obtain rfl:=oIj h
   exact Tl9 (f:=50) (by decide) T16 T3w
 · exact Ta8 h
theorem Tno {args:List PV}{r:Ret}(h:revHeadF args=some r):CallOK Tryz.prog 2000059 args r/\Callable Tryz.prog (realF 2000059 r):=by
 unfold revHeadF at h
 split at h
 · obtain rfl:=oIj h
   exact Tl9 (f:=59) (by decide) T17 T1w
 · exact Ta8 h
theorem Tnp {args:List PV}{r:Ret}(h:revLiveF args=some r):CallOK Tryz.prog 2000151 args r/\Callable Tryz.prog (realF 2000151 r):=by
 unfold revLiveF at h
 split at h
 · obtain rfl:=oIj h
   exact Tl9 (f:=151) (by decide) T18 (T1x _)
 · exact Ta8 h
theorem Tks {args:List PV}{r:Ret}(h:revUndoneF args=some r):CallOK Tryz.prog 2000102 args r/\Callable Tryz.prog (realF 2000102 r):=by
 unfold revUndoneF at h
 split at h
 · obtain rfl:=oIj h
   exact Tl9 (f:=102) (by decide) T19 (Tuq _)
 · exact Ta8 h
theorem Tnq {args:List PV}{r:Ret}(h:revCopyF args=some r):CallOK Tryz.prog 2000097 args r/\Callable Tryz.prog (realF 2000097 r):=by
 unfold revCopyF at h
 split at h
 · obtain rfl:=oIj h
   exact Tl9 (f:=97) (by decide) T2a Tyd
 · exact Ta8 h
theorem Tra {args:List PV}{r:Ret}(h:revAddF args=some r):CallOK Tryz.prog 1000054 args r/\Callable Tryz.prog (realF 1000054 r):=by
 unfold revAddF at h
 split at h
 · rename_i g U fl G F
   rcases Taz h with⟨hg,h⟩ | ⟨_,h⟩
   · obtain rfl:=oIj h
     obtain⟨v,h',e⟩:=Tq8 U fl G F g
     rw[e]
     exact Tzn (f:=54) (by decide) T2b (T3v g hg v h' e)
   · exact Ta8 h
 · exact Ta8 h
theorem Tkt {args:List PV}{r:Ret}(h:revToggleF args=some r):CallOK Tryz.prog 1000062 args r/\Callable Tryz.prog (realF 1000062 r):=by
 unfold revToggleF at h
 split at h
 · rename_i g U fl G F
   rcases Taz h with⟨hg,h⟩ | ⟨_,h⟩
   · obtain rfl:=oIj h
     obtain⟨v,h',e⟩:=Tkr U fl G F g
     rw[e]
     exact Tzn (f:=62) (by decide) T2c (Tus g hg v h' e)
   · exact Ta8 h
 · exact Ta8 h
theorem envOk (cp:List PV->Option Ret)(hcp:∀ f args r,cp (.fn f []::args)=some r->CallOK Tryz.prog f args r/\Callable Tryz.prog (realF f r)):EnvOk Tryz.prog (EX cp):=by
 refine⟨mixed,okPrg,?_⟩
 intro f args r he hr
 change extF cp f args=some r at hr
 unfold extF at hr
 rcases Taz hr with⟨rfl,hr⟩ | ⟨_,hr⟩
 · obtain⟨rfl,rfl⟩:=Tff hr
   exact⟨sbok1,T1y⟩
 rcases Taz hr with⟨rfl,hr⟩ | ⟨_,hr⟩
 · obtain⟨rfl,rfl⟩:=Tff hr
   exact⟨sbok3,T1z⟩
 rcases Taz hr with⟨rfl,hr⟩ | ⟨_,hr⟩
 · obtain⟨rfl,rfl⟩:=Tff hr
   exact⟨sbok2,T10⟩
 rcases Taz hr with⟨rfl,hr⟩ | ⟨_,hr⟩
 · obtain⟨rfl,rfl⟩:=Tff hr
   exact⟨Tx4,T11⟩
 rcases Taz hr with⟨rfl,hr⟩ | ⟨_,hr⟩
 · obtain⟨l,rfl,h1,h2,rfl⟩:=Th7 hr
   exact⟨Tx3 _ h1 h2,T13⟩
 rcases Taz hr with⟨rfl,hr⟩ | ⟨_,hr⟩
 · obtain⟨l,rfl,h1,h2,rfl⟩:=Th7 hr
   exact⟨Tuk _ h1 h2,T14⟩
 rcases Taz hr with⟨rfl,hr⟩ | ⟨_,hr⟩
 · obtain⟨rfl,rfl⟩:=Tff hr
   exact⟨Tx5,T12⟩
 rcases Taz hr with⟨rfl,hr⟩ | ⟨_,hr⟩
 · obtain⟨x,l,rfl,hl,rfl⟩:=Tyf hr
   exact⟨T1s x l hl,T15⟩
 rcases Taz hr with⟨_,hr⟩ | ⟨_,hr⟩
 · exact hcp _ _ _ hr
 rcases Taz hr with⟨_,hr⟩ | ⟨_,hr⟩
 · exact hcp _ _ _ hr
 rcases Taz hr with⟨_,hr⟩ | ⟨_,hr⟩
 · exact hcp _ _ _ hr
 rcases Taz hr with⟨rfl,hr⟩ | ⟨_,hr⟩
 · exact Tq9 hr
 rcases Taz hr with⟨rfl,hr⟩ | ⟨_,hr⟩
 · exact Tno hr
 rcases Taz hr with⟨rfl,hr⟩ | ⟨_,hr⟩
 · exact Tnp hr
 rcases Taz hr with⟨rfl,hr⟩ | ⟨_,hr⟩
 · exact Tks hr
 rcases Taz hr with⟨rfl,hr⟩ | ⟨_,hr⟩
 · exact Tnq hr
 rcases Taz hr with⟨rfl,hr⟩ | ⟨_,hr⟩
 · exact Tra hr
 rcases Taz hr with⟨rfl,hr⟩ | ⟨_,hr⟩
 · exact Tkt hr
 rcases Taz hr with⟨_,hr⟩ | ⟨_,hr⟩
 · exact hcp _ _ _ hr
 · exact Ta8 hr
def EV:Env:=EX fun _=>none
theorem EVok:EnvOk Tryz.prog EV:=envOk _ fun _ _ _ h=>by cases h
end Go.Proofs.YtjpibniecllafaaGreat.AM
end
section
namespace Go.Proofs.YtjpibniecllafaaGreat.AM
open Go Go.Proofs.YtjpibniecllafaaGreat.U
structure Ch where
 f:Int
 t:Int
 s:ByteArray
 deriving DecidableEq
def Ch.pv (c:Ch):List PV:= [pi c.f,pi c.t,.sc (.string c.s)]
def chs (l:List Ch):List (List PV):=l.map Ch.pv
@[simp] theorem Tcv (l:List Ch): (chs l).length=l.length:=by simp[chs]
@[simp] theorem T41:chs []= []:=rfl
theorem Tdd (l:List Ch)(n:Nat)(h:n<l.length): (chs l)[n]?=some l[n].pv:=by simp[chs,List.getElem?_eq_getElem h]
theorem Tcz (l:List Ch): (chs l).take l.length=chs l:=by rw[List.take_of_length_le (by simp)]
def inI (n:Int):Prop:= -9223372036854775808<=n/\n<=9223372036854775807
def Ch.wf (c:Ch):Prop:=inI c.f/\inI c.t/\c.s.size<=9223372036854775807
end Go.Proofs.YtjpibniecllafaaGreat.AM
end
section
namespace Go.Proofs.YtjpibniecllafaaGreat.AM
open Go Go.Proofs.YtjpibniecllafaaGreat.U
variable {cp:List PV->Option Ret}
theorem Trb (l:List Ch)(e:Int)(fid:FuncId)(cs:List PV)(p:Ch->Bool)(hl:l.length<=9223372036854775807)(hp:∀ c∈l,Run (EX cp) fid (.st c.pv::cs)=some (.val (pb (p c)))):∀(m i:Nat),m+i=l.length ->
 Code (EX cp) L_edit_first_0 ⟨[(1,.p (pi e)),(2,.p (.fn fid cs)),(9,.p (.sl 3 (chs l))),(10,.p (pi l.length)),(11,.p (pi i))],[]⟩ =
  if(l.drop i).any p=true then some (.ret,⟨[(6,.p (pi e))],[]⟩)else some (.ex 0,⟨[(1,.p (pi e)),(2,.p (.fn fid cs)),(9,.p (.sl 3 (chs l))),(10,.p (pi l.length)),(11,.p (pi l.length)),(12,.p (pb false))],[]⟩):=by
 intro m
 induction m with
 | zero =>
  intro i hi
  have:i=l.length:=by omega
  subst this
  rw[List.drop_length,List.any_nil,if_neg (by simp),L_edit_first_0,Taf]
  simp
 | succ m ih =>
  intro i hi
  have h1:i<l.length:=by omega
  have ih':=ih (i+1) (by omega)
  have hg:=Tdd l i h1
  have hr:=hp l[i] (List.getElem_mem h1)
  rw[List.drop_eq_getElem_cons h1,List.any_cons]
  generalize l[i]=c at *
  have hpv:c.pv= [pi c.f,pi c.t,.sc (.string c.s)]:=rfl
  rw[hpv]at hg hr
  cases hb:p c<;> rw[hb]at hr
  · rw[Bool.false_or,← ih',L_edit_first_0,Taf]
    simp(disch:=omega)[h1,hg,hr,Taa,Tad,Tab,-getElem?_pos]
  · rw[Bool.true_or,if_pos rfl,L_edit_first_0,Taf]
    simp(disch:=omega)[h1,hg,hr,Taa,Tad,Tab,-getElem?_pos]
theorem editFirst (l:List Ch)(e:Int)(fid:FuncId)(cs:List PV)(p:Ch->Bool)(hl:l.length<=9223372036854775807)(hp:∀ c∈l,Run (EX cp) fid (.st c.pv::cs)=some (.val (pb (p c)))) :
 Run (EX cp) 91 [.sl 3 (chs l),pi e,.fn fid cs]=some (.val (pi (if l.any p=true then e else 0))):=by
 have h:=Trb (cp:=cp) l e fid cs p hl hp l.length 0 (by omega)
 rw[List.drop_zero,show((0:Nat):Int)=0 from rfl]at h
 rw[Tah _ A_edit_first _ rfl rfl rfl]
 generalize l.any p=b at *
 cases b<;> simp(disch:=omega)[A_edit_first,h]
def ordd:List Ch->Bool
 | a::b::l=> !(decide (b.f<a.t)|| (decide (a.f=b.f)&&decide (a.t=b.f)))&&ordd (b::l)
 | _=>true
theorem Trc (l:List Ch) (hl:l.length<=9223372036854775807):∀(m i:Nat),m+i+1=l.length ->
 Code (EX cp) L_edit_order_0 ⟨[(0,.p (.sl 3 (chs l))),(3,.p (pi ((i:Int)+1)))],[]⟩ =
  if ordd (l.drop i)=true then some (.ex 0,⟨[(0,.p (.sl 3 (chs l))),(3,.p (pi l.length)),(9,.p (pb false))],[]⟩)else some (.ret,⟨[(2,.p (pi 180))],[]⟩):=by
 intro m
 induction m with
 | zero =>
  intro i hi
  have hd:l.drop i= [l[i]'(by omega)]:=by
   rw[List.drop_eq_getElem_cons (by omega),List.drop_of_length_le (by omega)]
  have: (i:Int)+1=l.length:=by omega
  rw[this,hd,if_pos (by rfl),L_edit_order_0,Taf]
  simp
 | succ m ih =>
  intro i hi
  have h0:i<l.length:=by omega
  have h1:i+1<l.length:=by omega
  have ih':=ih (i+1) (by omega)
  have hg0:=Tdd l i h0
  have hg1:=Tdd l (i+1) h1
  rw[List.drop_eq_getElem_cons h1]at ih'
  rw[List.drop_eq_getElem_cons h0,List.drop_eq_getElem_cons h1]
  generalize l[i]=a at *
  generalize l[i+1]=b at *
  have hpa:a.pv= [pi a.f,pi a.t,.sc (.string a.s)]:=rfl
  have hpb:b.pv= [pi b.f,pi b.t,.sc (.string b.s)]:=rfl
  rw[hpa]at hg0
  rw[hpb]at hg1
  have e1: ((i+1:Nat):Int)+1= (i:Int)+1+1:=by omega
  have e2: ((i:Int)+1).toNat=i+1:=by omega
  rw[e1]at ih'
  have h1': (i:Int)+1<l.length:=by omega
  have e3: (0:Int)<= (i:Int)+1:=by omega
  rw[ordd]
  by_cases c0:b.f<a.t
  · rw[decide_eq_true c0,L_edit_order_0,Taf]
    simp(disch:=omega)[h0,h1,h1',e2,e3,hg0,hg1,c0,Taa,Tad,Tab,-getElem?_pos]
  · by_cases c1:a.f=b.f
    · by_cases c2:a.t=b.f
      · rw[decide_eq_false c0,decide_eq_true c1,decide_eq_true c2,L_edit_order_0,Taf]
        simp(disch:=omega)[h0,h1,h1',e2,e3,hg0,hg1,c0,c1,c2,Taa,Tad,Tab,-getElem?_pos]
      · rw[decide_eq_false c0,decide_eq_true c1,decide_eq_false c2]
        simp only[Bool.and_false,Bool.or_false,Bool.not_false,Bool.true_and]
        rw[← ih',L_edit_order_0,Taf]
        simp(disch:=omega)[h0,h1,h1',e2,e3,hg0,hg1,c0,c1,c2,Taa,Tad,Tab,-getElem?_pos]
    · rw[decide_eq_false c0,decide_eq_false c1]
      simp only[Bool.false_and,Bool.or_false,Bool.not_false,Bool.true_and]
      rw[← ih',L_edit_order_0,Taf]
      simp(disch:=omega)[h0,h1,h1',e2,e3,hg0,hg1,c0,c1,Taa,Tad,Tab,-getElem?_pos]
theorem editOrder (l:List Ch)(hl:l.length<=9223372036854775807):Run (EX cp) 94 [.sl 3 (chs l)]=some (.val (pi (if ordd l=true then 0 else 180))):=by
 rw[Tah _ A_edit_order _ rfl rfl rfl]
 by_cases h0:l.length=0
 · have:l= []:=List.eq_nil_of_length_eq_zero h0
   subst this
   have h:Code (EX cp) L_edit_order_0 ⟨[(0,.p (.sl 3 [])),(3,.p (pi 1))],[]⟩=some (.ex 0,⟨[(0,.p (.sl 3 [])),(3,.p (pi 1)),(9,.p (pb false))],[]⟩):=by
    rw[L_edit_order_0,Taf]
    simp(disch:=omega)[Tad]
   simp(disch:=omega)[A_edit_order,h,ordd]
 · have h:=Trc (cp:=cp) l hl (l.length-1) 0 (by omega)
   rw[List.drop_zero,show((0:Nat):Int)+1=1 from rfl]at h
   generalize ordd l=b at *
   cases b<;> simp(disch:=omega)[A_edit_order,h]
def lngA (s:ByteArray):Int->List Ch->Int
 | n,[]=>n
 | n,c::l=>lngA s (n+min (max (IntKind.wrap .i64 (c.t-c.f)) 0) s.size) l
def lngB:Int->List Ch->Option Int
 | n,[]=>some n
 | n,c::l=>if n<c.s.size then none else lngB (n-c.s.size) l
def lng (s:ByteArray)(l:List Ch):Bool:=match lngB (lngA s (20000-s.size) l) l with
 | none=>true
 | some n=>decide (n<0)
theorem Trd (s:ByteArray)(l:List Ch)(hs:s.size<1099511627776)(hl:l.length<=8):∀(m i:Nat) (n:Int),m+i=l.length-> -1099511627776<=n->n<=20000+1099511627776*i ->
 Code (EX cp) L_edit_long_0 ⟨[(0,.p (.sc (.string s))),(1,.p (.sl 3 (chs l))),(5,.p (pi n)),(13,.p (.sl 3 (chs l))),(14,.p (pi l.length)),(15,.p (pi i))],[]⟩ =
  some (.ex 0,⟨[(0,.p (.sc (.string s))),(1,.p (.sl 3 (chs l))),(5,.p (pi (lngA s n (l.drop i)))),(13,.p (.sl 3 (chs l))),(14,.p (pi l.length)),(15,.p (pi l.length)),(16,.p (pb false))],[]⟩):=by
 intro m
 induction m with
 | zero =>
  intro i n hi h1 h2
  have:i=l.length:=by omega
  subst this
  rw[List.drop_length,lngA,L_edit_long_0,Taf]
  simp
 | succ m ih =>
  intro i n hi hn1 hn2
  have h1:i<l.length:=by omega
  have hg:=Tdd l i h1
  rw[List.drop_eq_getElem_cons h1,lngA]
  generalize l[i]=c at *
  have hpv:c.pv= [pi c.f,pi c.t,.sc (.string c.s)]:=rfl
  rw[hpv]at hg
  generalize hw:IntKind.wrap .i64 (c.t-c.f)=w at *
  have hm1:mnmxs true (pi w) [pi 0]=some (pi (max w 0)):=by
   simp only[mnmxs,mnmx,if_true]
   rw[Tzj]
  have hm2:mnmxs false (pi (max w 0)) [pi s.size]=some (pi (min (max w 0) s.size)):=by
   simp only[mnmxs,mnmx,Bool.false_eq_true,if_false]
   rw[Tzk]
  have b0:0<=min (max w 0) s.size:=by omega
  have b1:min (max w 0) s.size<=s.size:=by omega
  generalize min (max w 0) s.size=q at *
  have ih':=ih (i+1) (n+q) (by omega) (by omega) (by omega)
  rw[← ih',L_edit_long_0,Taf]
  simp(disch:=omega)[h1,hg,hw,hm1,hm2,Taa,Tad,Tab,-mnmxs,-getElem?_pos]
theorem Tre (l:List Ch)(hl:l.length<=8):∀(m i:Nat) (n:Int),m+i=l.length-> -1099511627776<=n->n<=9223372036854775807 ->
 Code (EX cp) L_edit_long_1 ⟨[(5,.p (pi n)),(31,.p (.sl 3 (chs l))),(32,.p (pi l.length)),(33,.p (pi i))],[]⟩ =
  match lngB n (l.drop i)with
  | some k=>some (.ex 2,⟨[(5,.p (pi k)),(31,.p (.sl 3 (chs l))),(32,.p (pi l.length)),(33,.p (pi l.length)),(34,.p (pb false))],[]⟩)
  | none=>some (.ret,⟨[(4,.p (pi 13))],[]⟩):=by
 intro m
 induction m with
 | zero =>
  intro i n hi h1 h2
  have:i=l.length:=by omega
  subst this
  rw[List.drop_length,lngB,L_edit_long_1,Taf]
  simp
 | succ m ih =>
  intro i n hi hn1 hn2
  have h1:i<l.length:=by omega
  have hg:=Tdd l i h1
  rw[List.drop_eq_getElem_cons h1,lngB]
  generalize l[i]=c at *
  have hpv:c.pv= [pi c.f,pi c.t,.sc (.string c.s)]:=rfl
  rw[hpv]at hg
  by_cases hc:n<c.s.size
  · rw[if_pos hc,L_edit_long_1,Taf]
    simp(disch:=omega)[h1,hg,hc,Taa,Tad,Tab,-getElem?_pos]
  · rw[if_neg hc,← ih (i+1) (n-c.s.size) (by omega) (by omega) (by omega),L_edit_long_1,Taf]
    simp(disch:=omega)[h1,hg,hc,Taa,Tad,Tab,-getElem?_pos]
theorem Tjk (s:ByteArray)(hs:s.size<1099511627776):∀(l:List Ch) (n:Int),n<=lngA s n l/\lngA s n l<=n+1099511627776*l.length
 | [],n=>by simp[lngA]
 | c::l,n=>by
  have h:=Tjk s hs l (n+min (max (IntKind.wrap .i64 (c.t-c.f)) 0) s.size)
  rw[lngA,List.length_cons]
  generalize IntKind.wrap .i64 (c.t-c.f)=w at *
  omega
theorem editLong (s:ByteArray)(l:List Ch)(hs:s.size<1099511627776)(hl:l.length<=8):Run (EX cp) 96 [.sc (.string s),.sl 3 (chs l)]=some (.val (pi (if lng s l=true then 13 else 0))):=by
 have h0:=Trd (cp:=cp) s l hs hl l.length 0 (20000-s.size) (by omega) (by omega) (by omega)
 have hb:=Tjk s hs l (20000-s.size)
 have h1:=Tre (cp:=cp) l hl l.length 0 (lngA s (20000-s.size) l) (by omega) (by omega) (by omega)
 rw[List.drop_zero,show((0:Nat):Int)=0 from rfl]at h0 h1
 unfold lng
 rw[Tah _ A_edit_long _ rfl rfl rfl]
 generalize lngA s (20000-s.size) l=n at *
 cases hB:lngB n l with
 | none =>
  rw[hB]at h1
  simp(disch:=omega)[A_edit_long,h0,h1,Tab]
 | some k =>
  rw[hB]at h1
  by_cases hk:k<0
  · simp(disch:=omega)[A_edit_long,h0,h1,hk,Tab]
  · simp(disch:=omega)[A_edit_long,h0,h1,hk,Tab]
def rngB (s:ByteArray)(c:Ch):Bool:=decide (c.f<0)||decide (c.t<c.f)||decide ((s.size:Int)<c.t)
def edgB (s:ByteArray)(c:Ch):Bool:= !edge s c.f|| !edge s c.t
def badS' (c:Ch):Bool:= !valid (L c.s)
theorem check1 (s:ByteArray)(i:Int)(hs:s.size<1099511627776):Run (EX cp) 90 [pi i,.pt [.sc (.string s)]]=some (.val (pb (edge s i))):=by
 have h:=utfIsEdge (cp:=cp) s i hs
 rw[Tah _ A_edit_Check_1 _ rfl rfl rfl]
 simp(disch:=omega)[A_edit_Check_1,h]
theorem check2 (s:ByteArray)(c:Ch):Run (EX cp) 92 [.st c.pv,.pt [.sc (.string s)]]=some (.val (pb (rngB s c))):=by
 rw[Tah _ A_edit_Check_2 _ rfl rfl rfl]
 unfold rngB
 have hpv:c.pv= [pi c.f,pi c.t,.sc (.string c.s)]:=rfl
 rw[hpv]
 by_cases c0:c.f<0
 · simp(disch:=omega)[A_edit_Check_2,c0,Taa]
 · by_cases c1:c.t<c.f
   · simp(disch:=omega)[A_edit_Check_2,c0,c1,Taa]
   · simp(disch:=omega)[A_edit_Check_2,c0,c1,Taa]
theorem check3 (s:ByteArray)(c:Ch)(hs:s.size<1099511627776):Run (EX cp) 93 [.st c.pv,.pt [.fn 90 [.pt [.sc (.string s)]]]]=some (.val (pb (edgB s c))):=by
 have h1:=check1 (cp:=cp) s c.f hs
 have h2:=check1 (cp:=cp) s c.t hs
 rw[Tah _ A_edit_Check_3 _ rfl rfl rfl]
 unfold edgB
 have hpv:c.pv= [pi c.f,pi c.t,.sc (.string c.s)]:=rfl
 rw[hpv]
 generalize edge s c.f=b1 at *
 generalize edge s c.t=b2 at *
 cases b1<;> simp(disch:=omega)[A_edit_Check_3,h1,h2]
theorem check4 (c:Ch)(hs:c.s.size<1099511627776):Run (EX cp) 95 [.st c.pv]=some (.val (pb (badS' c))):=by
 have h1:=utfValid (cp:=cp) c.s hs
 rw[Tah _ A_edit_Check_4 _ rfl rfl rfl]
 unfold badS'
 have hpv:c.pv= [pi c.f,pi c.t,.sc (.string c.s)]:=rfl
 rw[hpv]
 simp(disch:=omega)[A_edit_Check_4,h1]
def fstNZ:List Int->Int
 | []=>0
 | a::l=>if a=0 then fstNZ l else a
theorem Trf (ns:List Int)(hn:ns.length<=100):∀(m i:Nat),m+i=ns.length ->
 Code (EX cp) L_edit_Check_0 ⟨[(30,.ms 30 0 ns.length),(31,.p (pi ns.length)),(32,.p (pi i))],[(30,.row 26 1 false (ints ns))]⟩ =
  if fstNZ (ns.drop i)=0 then some (.ex 1,⟨[(30,.ms 30 0 ns.length),(31,.p (pi ns.length)),(32,.p (pi ns.length)),(33,.p (pb false))],[(30,.row 26 1 false (ints ns))]⟩)else some (.ret,⟨[(4,.p (pi (fstNZ (ns.drop i))))],[]⟩):=by
 intro m
 induction m with
 | zero =>
  intro i hi
  have:i=ns.length:=by omega
  subst this
  rw[List.drop_length,if_pos (by rfl),L_edit_Check_0,Taf]
  simp
 | succ m ih =>
  intro i hi
  have h1:i<ns.length:=by omega
  have ih':=ih (i+1) (by omega)
  have hg:=Tf3 ns i h1
  rw[List.drop_eq_getElem_cons h1,fstNZ]
  generalize ns[i]=n at *
  by_cases c:n=0
  · subst c
    simp only[if_true]
    rw[← ih',L_edit_Check_0,Taf]
    simp(disch:=omega)[h1,hg,Taa,Tad,Tab,-getElem?_pos]
  · rw[if_neg c,if_neg c,L_edit_Check_0,Taf]
    simp(disch:=omega)[h1,hg,c,Taa,Tad,Tab,-getElem?_pos]
def chk (s:ByteArray)(l:List Ch):Int :=
 if valid (L s)=false then 12 else if 8<l.length then 70 else
  fstNZ [if l.any (rngB s)=true then 10 else 0,if l.any (edgB s)=true then 11 else 0,if ordd l=true then 0 else 180,if l.any badS'=true then 12 else 0,if lng s l=true then 13 else 0]
theorem editCheck (s:ByteArray)(l:List Ch)(hs:s.size<1099511627776)(hl:l.length<=9223372036854775807)(hc:∀ c∈l,c.s.size<1099511627776):Run (EX cp) 52 [.sc (.string s),.sl 3 (chs l)]=some (.val (pi (chk s l))):=by
 have hv:=utfValid (cp:=cp) s hs
 rw[Tah _ A_edit_Check _ rfl rfl rfl]
 unfold chk
 generalize valid (L s)=b at *
 cases b
 · simp(disch:=omega)[A_edit_Check,hv]
 by_cases c8:l.length<=8
 case neg =>
  rw[if_neg (by simp),if_pos (by omega)]
  simp(disch:=omega)[A_edit_Check,hv,c8,Taa,Tad]
 rw[if_neg (by simp),if_neg (by omega)]
 have f1:=editFirst (cp:=cp) l 10 92 [.pt [.sc (.string s)]] (rngB s) hl fun c _=>check2 s c
 have f2:=editFirst (cp:=cp) l 11 93 [.pt [.fn 90 [.pt [.sc (.string s)]]]] (edgB s) hl fun c _=>check3 s c hs
 have f3:=editOrder (cp:=cp) l hl
 have f4:=editFirst (cp:=cp) l 12 95 [] badS' hl fun c hcl=>check4 c (hc c hcl)
 have f5:=editLong (cp:=cp) s l hs c8
 generalize(if l.any (rngB s)=true then(10:Int)else 0)=n1 at *
 generalize(if l.any (edgB s)=true then(11:Int)else 0)=n2 at *
 generalize(if ordd l=true then(0:Int)else 180)=n3 at *
 generalize(if l.any badS'=true then(12:Int)else 0)=n4 at *
 generalize(if lng s l=true then(13:Int)else 0)=n5 at *
 have hlp:=Trf (cp:=cp) [n1,n2,n3,n4,n5] (by simp) 5 0 (by simp)
 rw[List.drop_zero,show((0:Nat):Int)=0 from rfl,show([n1,n2,n3,n4,n5]:List Int).length=5 from rfl,show((5:Nat):Int)=5 from rfl,show ints [n1,n2,n3,n4,n5]= [[pi n1],[pi n2],[pi n3],[pi n4],[pi n5]]from rfl]at hlp
 generalize fstNZ [n1,n2,n3,n4,n5]=r at *
 by_cases hr:r=0
 · rw[if_pos hr]at hlp
   subst hr
   simp(disch:=omega)[A_edit_Check,hv,c8,f1,f2,f3,f4,f5,hlp,Taa,Tad]
 · rw[if_neg hr]at hlp
   simp(disch:=omega)[A_edit_Check,hv,c8,f1,f2,f3,f4,f5,hlp,Taa,Tad]
def Chain (s:ByteArray):List Ch->Int->Prop
 | [],k=>0<=k/\k<=s.size
 | c::l,k=>0<=k/\k<=c.f/\c.f<=c.t/\c.t<=s.size/\Chain s l c.t
theorem Trg {l:List Int}(h:fstNZ l=0):∀ n∈l,n=0:=by
 induction l with
 | nil=>simp
 | cons a l ih =>
  rw[fstNZ]at h
  intro n hn
  by_cases c:a=0
  · rw[if_pos c]at h
    rcases List.mem_cons.1 hn with rfl | hn
    · exact c
    · exact ih h n hn
  · rw[if_neg c]at h; exact absurd h c
structure Good18 (s:ByteArray) (l:List Ch):Prop where
 val:valid (L s)=true
 len:l.length<=8
 rng:∀ c∈l,0<=c.f/\c.f<=c.t/\c.t<=s.size
 edg:∀ c∈l,edge s c.f=true/\edge s c.t=true
 ord:ordd l=true
 txt:∀ c∈l,valid (L c.s)=true
 lng:lng s l=false
theorem Tgv {s:ByteArray}{l:List Ch}(h:chk s l=0):Good18 s l:=by
 unfold chk at h
 split at h
 · simp at h
 rename_i hv
 split at h
 · simp at h
 rename_i hl
 have hz:=Trg h
 simp only[List.mem_cons,List.not_mem_nil,or_false]at hz
 have z1:=hz _ (.inl rfl)
 have z2:=hz _ (.inr (.inl rfl))
 have z3:=hz _ (.inr (.inr (.inl rfl)))
 have z4:=hz _ (.inr (.inr (.inr (.inl rfl))))
 have z5:=hz _ (.inr (.inr (.inr (.inr rfl))))
 have y1:l.any (rngB s)=false:=by
  by_cases hb:l.any (rngB s)=true
  · rw[if_pos hb]at z1; omega
  · simpa using hb
 have y2:l.any (edgB s)=false:=by
  by_cases hb:l.any (edgB s)=true
  · rw[if_pos hb]at z2; omega
  · simpa using hb
 have y3:ordd l=true:=by
  by_cases hb:ordd l=true
  · exact hb
  · rw[if_neg hb]at z3; omega
 have y4:l.any badS'=false:=by
  by_cases hb:l.any badS'=true
  · rw[if_pos hb]at z4; omega
  · simpa using hb
 have y5:AM.lng s l=false:=by
  by_cases hb:AM.lng s l=true
  · rw[if_pos hb]at z5; omega
  · simpa using hb
 rw[List.any_eq_false]at y1 y2 y4
 refine⟨by simpa using hv,by omega,fun c hc=> ?_,fun c hc=> ?_,y3,fun c hc=> ?_,y5⟩
 · have:=y1 c hc
   unfold rngB at this
   simp at this
   omega
 · have:=y2 c hc
   unfold edgB at this
   simpa using this
 · have:=y4 c hc
   unfold badS' at this
   simpa using this
theorem Tpo {s:ByteArray}{l:List Ch}(h:Good18 s l):chk s l=0:=by
 have y1:l.any (rngB s)=false:=by
  rw[List.any_eq_false]
  intro c hc
  have:=h.rng c hc
  unfold rngB
  simp
  omega
 have y2:l.any (edgB s)=false:=by
  rw[List.any_eq_false]
  intro c hc
  have:=h.edg c hc
  unfold edgB
  simp[this]
 have y4:l.any badS'=false:=by
  rw[List.any_eq_false]
  intro c hc
  have:=h.txt c hc
  unfold badS'
  simp[this]
 unfold chk
 rw[if_neg (by rw[h.val]; simp),if_neg (by have:=h.len; omega),y1,y2,y4,h.ord,h.lng]
 rfl
theorem Tpp (s:ByteArray):∀(l:List Ch) (k:Int),0<=k->k<=s.size-> (∀ c∈l,0<=c.f/\c.f<=c.t/\c.t<=s.size)->ordd l=true-> (∀ c∈l.head?,k<=c.f)->Chain s l k
 | [],k,h0,h1,_,_,_=> ⟨h0,h1⟩
 | [c],k,h0,h1,hr,_,hh=>by
  have:=hr c (by simp)
  exact⟨h0,hh c (by simp),this.2.1,this.2.2,by omega,this.2.2⟩
 | a::b::l,k,h0,h1,hr,ho,hh=>by
  have ha:=hr a (by simp)
  rw[ordd,Bool.and_eq_true]at ho
  have h2:a.t<=b.f:=by
   have:=ho.1
   simp at this
   omega
  exact⟨h0,hh a (by simp),ha.2.1,ha.2.2,Tpp s (b::l) a.t (by omega) ha.2.2 (fun c hc=>hr c (by simp[hc])) ho.2 (fun c hc=>by simp at hc; subst hc; exact h2)⟩
theorem Good18.chain {s:ByteArray}{l:List Ch}(h:Good18 s l):Chain s l 0 :=
 Tpp s l 0 (by omega) (by omega) h.rng h.ord fun c hc=> (h.rng c (List.mem_of_mem_head? hc)).1
end Go.Proofs.YtjpibniecllafaaGreat.AM
end
section
namespace Go.Proofs.YtjpibniecllafaaGreat.AM
open Go Go.Proofs.YtjpibniecllafaaGreat.U
theorem Tnr (l:List UInt8):∀ i,i<=l.length-> (∀ b,l[i]?=some b->¬ cont b)->valid l=true->valid (l.take i)=true/\valid (l.drop i)=true:=by
 refine along (P:=fun l=>∀ i,i<=l.length-> (∀ b,l[i]?=some b->¬ cont b)->valid l=true->valid (l.take i)=true/\valid (l.drop i)=true) ?_ ?_ ?_ l
 · intro i _ _ _; simp[Ta0]
 · intro a t h _ i _ _ hv; rw[Tcf h]at hv; simp at hv
 · intro v r hs ih i hi hc hv
   rw[Tbk hs]at hv
   by_cases h0:i=0
   · subst h0
     rw[List.take_zero,List.drop_zero,Tbk hs]
     exact⟨Ta0,hv⟩
   by_cases h1:i< (enc v).length
   · exfalso
     obtain⟨a,t,e,_,hx⟩:=Thz v hs
     have hg: (enc v++r)[i]?= (enc v)[i]?:=List.getElem?_append_left h1
     rw[hg,List.getElem?_eq_getElem h1]at hc
     refine hc _ rfl ?_
     have hm: (enc v)[i]∈t:=by
      have:∀(l:List UInt8) (h:i<l.length),l=a::t->l[i]∈t:=by
       intro l h e
       subst e
       obtain⟨j,rfl⟩:∃ j,i=j+1:= ⟨i-1,by omega⟩
       rw[List.getElem_cons_succ]
       exact List.getElem_mem _
      exact this _ h1 e
     exact hx _ hm
   · obtain⟨j,rfl⟩:∃ j,i= (enc v).length+j:= ⟨i- (enc v).length,by omega⟩
     rw[List.length_append]at hi
     have h2:=ih j (by omega) (fun b hb=>hc b (by rw[List.getElem?_append_right (by omega),Nat.add_sub_cancel_left]; exact hb)) hv
     rw[List.take_length_add_append,List.drop_length_add_append,Tbk hs]
     exact h2
theorem Trh {s:ByteArray}{i:Int}(h:edge s i=true):0<=i/\i<=s.size/\valid ((L s).take i.toNat)=true/\valid ((L s).drop i.toNat)=true:=by
 unfold edge at h
 simp only[Bool.and_eq_true,decide_eq_true_eq,Bool.or_eq_true]at h
 obtain⟨⟨⟨h0,h1⟩,h2⟩,h3⟩:=h
 refine⟨h0,h1,Tnr _ _ (by rw[L_len]; omega) (fun b hb=> ?_) h3⟩
 rcases h2 with h2 | h2
 · have:i.toNat= (L s).length:=by rw[L_len]; omega
   rw[this,List.getElem?_eq_none (Nat.le_refl _)]at hb
   simp at hb
 · rw[hb]at h2
   simpa using h2
theorem Tri {a:UInt8}{t:List UInt8}(h:valid (a::t)=true):¬ cont a:=by
 intro hc
 rw[Tcf (To7 hc t)]at h
 simp at h
theorem T2d {s:ByteArray}{i:Int}(h0:0<=i)(h1:i<=s.size)(ha:valid ((L s).take i.toNat)=true)(hb:valid ((L s).drop i.toNat)=true):edge s i=true:=by
 have hv:valid (L s)=true:=by
  have:=Td1 ha ((L s).drop i.toNat)
  rw[List.take_append_drop]at this
  rw[this,hb]
 unfold edge
 rw[hv,decide_eq_true ⟨h0,h1⟩,Bool.true_and,Bool.and_true]
 by_cases he:i=s.size
 · rw[decide_eq_true he]; rfl
 · rw[decide_eq_false he,Bool.false_or]
   cases hd: (L s).drop i.toNat with
   | nil =>
    have:=congrArg List.length hd
    rw[List.length_drop,L_len]at this
    simp at this
    omega
   | cons a t =>
    rw[hd]at hb
    have hg: (L s)[i.toNat]?=some a:=by
     have:=congrArg (·[0]?) hd
     simpa using this
    rw[hg]
    simpa using Tri hb
def fst18 (s:ByteArray):List Ch->Int
 | []=>s.size
 | c::_=>c.f
theorem Chain.fst {s:ByteArray}{l:List Ch}{k:Int}(h:Chain s l k):0<=k/\k<=fst18 s l/\fst18 s l<=s.size:=by
 cases l with
 | nil=>exact⟨h.1,h.2,Int.le_refl _⟩
 | cons c l=>exact⟨h.1,h.2.1,by have h1:=h.2.2.1; have h2:=h.2.2.2.1; show c.f<=_; omega⟩
end Go.Proofs.YtjpibniecllafaaGreat.AM
end
section
namespace Go.Proofs.YtjpibniecllafaaGreat.AM
open Go Go.Proofs.YtjpibniecllafaaGreat.U
variable {cp:List PV->Option Ret}
def okAt (rev:Int)(u:List Int)(fr:Int)(l:List At)(ns:List Int)(i:Nat):Bool:=match ns[i]?,l[i]? with
 | some n,some a=>decide (n<fr)&&a.vis rev u
 | _,_=>false
def atI (rev:Int)(u:List Int)(fr:Int)(l:List At)(ns:List Int):Nat->Nat
 | 0=>0
 | i+1=>if okAt rev u fr l ns i=true then i+1 else atI rev u fr l ns i
theorem Tpq (rev:Int)(u:List Int)(fr:Int)(l:List At)(ns:List Int):∀ i,atI rev u fr l ns i<=i
 | 0=>Nat.le_refl _
 | i+1=>by rw[atI]; split<;> have:=Tpq rev u fr l ns i<;> omega
def skN (rev rank:Int):List At->Nat
 | []=>0
 | a::l=>if rev<a.rv/\a.rk<=rank then skN rev rank l+1 else 0
theorem Tzo (rev rank:Int):∀ l,skN rev rank l<=l.length
 | []=>Nat.le_refl _
 | a::l=>by rw[skN,List.length_cons]; split<;> have:=Tzo rev rank l<;> omega
def spotF (rev:Int)(u:List Int)(rank:Int)(l:List At)(ns:List Int)(fr:Int):Nat:=atI rev u fr l ns l.length+skN rev rank (l.drop (atI rev u fr l ns l.length))
theorem Tyg (rev:Int)(u:List Int)(rank:Int)(l:List At)(ns:List Int)(fr:Int):spotF rev u rank l ns fr<=l.length:=by
 unfold spotF
 have h1:=Tpq rev u fr l ns l.length
 have h2:=Tzo rev rank (l.drop (atI rev u fr l ns l.length))
 rw[List.length_drop]at h2
 omega
theorem Trj (l:List At)(ns:List Int)(rev:Int)(u:List Int)(fr rank:Int)(hn:ns.length=l.length+1)(hl:l.length<1099511627776)(hu:u.length<=9223372036854775807)(hc:∀ a∈l,a.cuts.length<=9223372036854775807):∀(m i:Nat),m+i=l.length ->
 Code (EX cp) L_edit_spot_0 ⟨[(0,.p (.sl 5 (ats l))),(1,.p (.sl 1 (ints ns))),(2,.p (pi rev)),(3,.p (.sl 1 (ints u))),(4,.p (pi fr)),(5,.p (pi rank)),(13,.p (pi (atI rev u fr l ns i))),(16,.p (.sl 5 (ats l))),(17,.p (pi l.length)),(18,.p (pi i))],[]⟩ =
  some (.ex 0,⟨[(0,.p (.sl 5 (ats l))),(1,.p (.sl 1 (ints ns))),(2,.p (pi rev)),(3,.p (.sl 1 (ints u))),(4,.p (pi fr)),(5,.p (pi rank)),(13,.p (pi (atI rev u fr l ns l.length))),(16,.p (.sl 5 (ats l))),(17,.p (pi l.length)),(18,.p (pi l.length)),(19,.p (pb false))],[]⟩):=by
 intro m
 induction m with
 | zero =>
  intro i hi
  have:i=l.length:=by omega
  subst this
  rw[L_edit_spot_0,Taf]
  simp
 | succ m ih =>
  intro i hi
  have h1:i<l.length:=by omega
  have ih':=ih (i+1) (by omega)
  have hg:=Tje l i h1
  have hgn:=Tf3 ns i (by omega)
  have c1:=visible (cp:=cp) l[i] rev u hu (hc _ (List.getElem_mem h1))
  have hok:okAt rev u fr l ns i= (decide (ns[i]'(by omega)<fr)&&l[i].vis rev u):=by
   unfold okAt
   rw[List.getElem?_eq_getElem (show i<ns.length by omega),List.getElem?_eq_getElem h1]
  rw[atI,hok]at ih'
  generalize ns[i]'(by omega)=n at *
  generalize l[i].vis rev u=b at *
  have hp:l[i].pv= [.sc (.string l[i].txt),pi l[i].rv,pi l[i].gr,pi l[i].rk,.sl 2 (cutsL l[i].cuts)]:=rfl
  rw[hp]at hg c1
  generalize atI rev u fr l ns i=k at *
  by_cases cn:n<fr
  · cases b
    · rw[decide_eq_true cn]at ih'
      simp only[Bool.and_false,Bool.false_eq_true,if_false]at ih'
      rw[← ih',L_edit_spot_0,Taf]
      simp(disch:=omega)[h1,hg,hgn,c1,cn,Taa,Tad,Tab,-getElem?_pos]
    · rw[decide_eq_true cn]at ih'
      simp only[Bool.and_true,if_true]at ih'
      rw[← ih',L_edit_spot_0,Taf]
      simp(disch:=omega)[h1,hg,hgn,c1,cn,Taa,Tad,Tab,-getElem?_pos]
  · rw[decide_eq_false cn]at ih'
    simp only[Bool.false_and,Bool.false_eq_true,if_false]at ih'
    rw[← ih',L_edit_spot_0,Taf]
    simp(disch:=omega)[h1,hg,hgn,c1,cn,Taa,Tad,Tab,-getElem?_pos]
theorem Trk (l:List At)(rev rank:Int)(U:PV)(hl:l.length<1099511627776):∀(m i:Nat),m+i=l.length ->
 Code (EX cp) L_edit_spot_1 ⟨[(0,.p (.sl 5 (ats l))),(2,.p (pi rev)),(5,.p (pi rank)),(13,.p (pi i))],[]⟩ =
  some (.ex 2,⟨[(0,.p (.sl 5 (ats l))),(2,.p (pi rev)),(5,.p (pi rank)),(13,.p (pi ((i+skN rev rank (l.drop i):Nat):Int))),(59,.p (pb false))],[]⟩):=by
 intro m
 induction m with
 | zero =>
  intro i hi
  have:i=l.length:=by omega
  subst this
  rw[List.drop_length,skN,Nat.add_zero,L_edit_spot_1,Taf]
  simp
 | succ m ih =>
  intro i hi
  have h1:i<l.length:=by omega
  have ih':=ih (i+1) (by omega)
  have hg:=Tje l i h1
  rw[List.drop_eq_getElem_cons h1,skN]
  generalize l[i]=a at *
  have hp:a.pv= [.sc (.string a.txt),pi a.rv,pi a.gr,pi a.rk,.sl 2 (cutsL a.cuts)]:=rfl
  rw[hp]at hg
  by_cases c0:rev<a.rv
  · by_cases c1:a.rk<=rank
    · rw[if_pos ⟨c0,c1⟩,show i+ (skN rev rank (l.drop (i+1))+1)=i+1+skN rev rank (l.drop (i+1))by omega,← ih',L_edit_spot_1,Taf]
      simp(disch:=omega)[h1,hg,c0,c1,Taa,Tad,Tab,-getElem?_pos]
    · rw[if_neg (fun h=>c1 h.2),Nat.add_zero,L_edit_spot_1,Taf]
      simp(disch:=omega)[h1,hg,c0,c1,Taa,Tad,Tab,-getElem?_pos]
  · rw[if_neg (fun h=>c0 h.1),Nat.add_zero,L_edit_spot_1,Taf]
    simp(disch:=omega)[h1,hg,c0,Taa,Tad,Tab,-getElem?_pos]
theorem editSpot (l:List At)(ns:List Int)(rev:Int)(u:List Int)(fr rank:Int)(hn:ns.length=l.length+1)(hl:l.length<1099511627776)(hu:u.length<=9223372036854775807)(hc:∀ a∈l,a.cuts.length<=9223372036854775807) :
 Run (EX cp) 156 [.sl 5 (ats l),.sl 1 (ints ns),pi rev,.sl 1 (ints u),pi fr,pi rank]=some (.val (pi (spotF rev u rank l ns fr))):=by
 have h0:=Trj (cp:=cp) l ns rev u fr rank hn hl hu hc l.length 0 (by omega)
 have hle:=Tpq rev u fr l ns l.length
 have h1:=Trk (cp:=cp) l rev rank (pi 0) hl (l.length-atI rev u fr l ns l.length) (atI rev u fr l ns l.length) (by omega)
 rw[atI,show((0:Nat):Int)=0 from rfl]at h0
 unfold spotF
 rw[Tah _ A_edit_spot _ rfl rfl rfl]
 generalize atI rev u fr l ns l.length=k at *
 generalize skN rev rank (l.drop k)=z at *
 have hn:Code (EX cp) L_edit_spot_1 ⟨[(0,.p (.sl 5 (ats l))),(1,.p (.sl 1 (ints ns))),(2,.p (pi rev)),(3,.p (.sl 1 (ints u))),(4,.p (pi fr)),(5,.p (pi rank)),(13,.p (pi k)),(16,.p (.sl 5 (ats l))),(17,.p (pi l.length)),(18,.p (pi l.length)),(19,.p (pb false))],[]⟩=Code (EX cp) L_edit_spot_1 ⟨[(0,.p (.sl 5 (ats l))),(2,.p (pi rev)),(5,.p (pi rank)),(13,.p (pi k))],[]⟩:=by
  rw[L_edit_spot_1,Taf,Taf]
  rfl
 rw[← hn]at h1
 simp(disch:=omega)[A_edit_spot,h0,h1]
theorem Trl (l:List At)(ns:List Int)(rev:Int)(u:List Int)(rank:Int)(c:List Ch)(hn:ns.length=l.length+1)(hl:l.length<1099511627776)(hu:u.length<=9223372036854775807)(hc:∀ a∈l,a.cuts.length<=9223372036854775807)(hc8:c.length<=8):∀(m i:Nat) (acc:List Int) (f:Bool),m+i=c.length->acc.length=i ->
 ∃ f':Bool,Code (EX cp) L_edit_Spots_0 ⟨[(0,.p (.sl 5 (ats l))),(1,.p (pi rev)),(2,.p (.sl 1 (ints u))),(4,.p (pi rank)),(11,.ms 11 0 (l.length+1)),(12,.ms 12 0 acc.length),(26,.p (.sl 3 (chs c))),(27,.p (pi c.length)),(28,.p (pi i))],[(11,.row 3 1 f (ints ns)),(12,.row 3 1 false (ints acc))]⟩ =
  some (.ex 0,⟨[(0,.p (.sl 5 (ats l))),(1,.p (pi rev)),(2,.p (.sl 1 (ints u))),(4,.p (pi rank)),(11,.ms 11 0 (l.length+1)),(12,.ms 12 0 c.length),(26,.p (.sl 3 (chs c))),(27,.p (pi c.length)),(28,.p (pi c.length)),(29,.p (pb false))],[(11,.row 3 1 f' (ints ns)),(12,.row 3 1 false (ints (acc++ (c.drop i).map fun x=> (spotF rev u rank l ns x.f:Int))))]⟩):=by
 intro m
 induction m with
 | zero =>
  intro i acc f hi ha
  have:i=c.length:=by omega
  subst this
  refine⟨f,?_⟩
  rw[List.drop_length,List.map_nil,List.append_nil,ha,L_edit_Spots_0,Taf]
  simp
 | succ m ih =>
  intro i acc f hi ha
  have h1:i<c.length:=by omega
  have hg:=Tdd c i h1
  rw[List.drop_eq_getElem_cons h1,List.map_cons]
  have hp:=editSpot (cp:=cp) l ns rev u c[i].f rank hn hl hu hc
  obtain⟨f',ih'⟩:=ih (i+1) (acc++ [(spotF rev u rank l ns c[i].f:Int)]) true (by omega) (by simp[ha])
  refine⟨f',?_⟩
  generalize c[i]=x at *
  have hpv:x.pv= [pi x.f,pi x.t,.sc (.string x.s)]:=rfl
  rw[hpv]at hg
  generalize spotF rev u rank l ns x.f=z at *
  have e:acc++ (z:Int):: (c.drop (i+1)).map (fun x=> (spotF rev u rank l ns x.f:Int))=acc++ [(z:Int)]++ (c.drop (i+1)).map (fun x=> (spotF rev u rank l ns x.f:Int)):=by simp
  have hnt: (ints ns).take (l.length+1)=ints ns:=by rw[← hn]; exact List.take_of_length_le (by simp[ints])
  have hal: (acc++ [(z:Int)]).length=i+1:=by simp[ha]
  rw[hal]at ih'
  have hcap: (i+1)*8<=maxBytes/\i+1<=9223372036854775807:=by unfold maxBytes; omega
  rw[e,← ih',ha,L_edit_Spots_0,Taf]
  simp(disch:=omega)[h1,hg,hp,hn,hnt,ha,hcap,Taa,Tad,Tab,Taj,-getElem?_pos]
def spotsF (l:List At)(rev:Int)(u:List Int)(c:List Ch)(rank:Int):List Int:=if chk (txtS rev u l) c=0 then c.map fun x=> (spotF rev u rank l (places rev u l) x.f:Int)else[]
structure Fit2 (l:List At):Prop where
 fit:Fit l
 sum:sumT l<549755813888
theorem Fit2.txt {l:List At}(h:Fit2 l)(rev:Int)(u:List Int): (txtS rev u l).size<1099511627776:=by
 have h1:=Tpc rev u l
 have h2:=h.sum
 have:L (txtS rev u l)=txtF rev u l:=L_mk _
 rw[← L_len,this]
 omega
theorem editSpots (l:List At)(rev:Int)(u:List Int)(c:List Ch)(rank:Int)(hf:Fit2 l)(hu:u.length<=9223372036854775807)(hcl:c.length<=9223372036854775807)(hcs:∀ x∈c,x.s.size<1099511627776) :
 Run (EX cp) 99 [.sl 5 (ats l),pi rev,.sl 1 (ints u),.sl 3 (chs c),pi rank]=some (.own 3 1 (ints (spotsF l rev u c rank))):=by
 have hl:=hf.fit.len
 have d1:=atomText (cp:=cp) l rev u hf.fit hu
 have d2:=editCheck (cp:=cp) (txtS rev u l) c (hf.txt rev u) hcl hcs
 have d3:=atomPlaces (cp:=cp) l rev u hf.fit hu
 have hc2:∀ a∈l,a.cuts.length<=9223372036854775807:=fun a ha=>by have:=hf.fit.cuts a ha; omega
 have hpl:=Tjf rev u l
 rw[Tah _ A_edit_Spots _ rfl rfl rfl]
 unfold spotsF
 by_cases c0:chk (txtS rev u l) c=0
 · have h8:= (Tgv c0).len
   obtain⟨f',h⟩:=Trl (cp:=cp) l (places rev u l) rev u rank c hpl hl hu hc2 h8 c.length 0 [] false (by omega) rfl
   rw[List.drop_zero,List.nil_append,show((0:Nat):Int)=0 from rfl,show ints []= []from rfl,show([]:List Int).length=0 from rfl]at h
   rw[if_pos c0]
   rw[c0]at d2
   have hml: (c.map fun x=> (spotF rev u rank l (places rev u l) x.f:Int)).length=c.length:=List.length_map _
   generalize(c.map fun x=> (spotF rev u rank l (places rev u l) x.f:Int))=o at *
   have ho: (ints o).take c.length=ints o:=by rw[← hml]; exact List.take_of_length_le (by simp[ints])
   simp(disch:=omega)[A_edit_Spots,d1,d2,d3,hpl,h,ho,hml,Taa,Tad]
 · rw[if_neg c0]
   simp(disch:=omega)[A_edit_Spots,d1,d2,c0,Taa,Tad]
def hitB (n:Int)(x:Ch):Bool:=decide (x.f<=n)&&decide (n<x.t)
def cutsI (rev:Int)(u:List Int)(c:List Ch):List At->List Int->Int->List Int
 | a::l,n::ns,i=>if a.vis rev u=true/\c.any (hitB n)=true then i::cutsI rev u c l ns (i+1)else cutsI rev u c l ns (i+1)
 | _,_,_=> []
theorem Tma (rev:Int)(u:List Int)(c:List Ch):∀(l:List At) (ns:List Int) (i:Int),(cutsI rev u c l ns i).length<=l.length
 | [],_,_=>by simp[cutsI]
 | a::l,[],_=>by simp[cutsI]
 | a::l,n::ns,i=>by
  rw[cutsI]
  have:=Tma rev u c l ns (i+1)
  split<;> simp<;> omega
theorem Trm (rev:Int)(u:List Int)(c:List Ch)(ns:List Int)(A:List (List PV))(nn nl i:Nat)(n:Int)(hi:ns[i]?=some n)(hnn:nn=ns.length)(hb:nl<1099511627776)(acc:List Int)(hacc:acc.length<=1099511627776)(hc8:c.length<=8):∀(m j:Nat),m+j=c.length ->
 Code (EX cp) L_edit_Cuts_0 ⟨[(1,.p (pi rev)),(2,.p (.sl 1 (ints u))),(3,.p (.sl 3 (chs c))),(9,.ms 9 0 nn),(10,.ms 10 0 acc.length),(11,.p (pi i)),(26,.p (.sl 5 A)),(27,.p (pi nl)),(28,.p (pi i)),(38,.p (.sl 3 (chs c))),(39,.p (pi c.length)),(40,.p (pi j))],[(9,.row 3 1 false (ints ns)),(10,.row 3 1 false (ints acc))]⟩ =
  if(c.drop j).any (hitB n)=true then some (.ex 1,⟨[(1,.p (pi rev)),(2,.p (.sl 1 (ints u))),(3,.p (.sl 3 (chs c))),(9,.ms 9 0 nn),(10,.ms 10 0 (acc.length+1)),(26,.p (.sl 5 A)),(27,.p (pi nl)),(28,.p (pi i))],[(9,.row 3 1 false (ints ns)),(10,.row 3 1 false (ints (acc++ [(i:Int)])))]⟩)
  else some (.ex 2,⟨[(1,.p (pi rev)),(2,.p (.sl 1 (ints u))),(3,.p (.sl 3 (chs c))),(9,.ms 9 0 nn),(10,.ms 10 0 acc.length),(11,.p (pi i)),(26,.p (.sl 5 A)),(27,.p (pi nl)),(28,.p (pi i)),(38,.p (.sl 3 (chs c))),(39,.p (pi c.length)),(40,.p (pi c.length)),(41,.p (pb false))],[(9,.row 3 1 false (ints ns)),(10,.row 3 1 false (ints acc))]⟩):=by
 have hin:i<ns.length:=by
  rcases Nat.lt_or_ge i ns.length with h | h
  · exact h
  · rw[List.getElem?_eq_none h]at hi; simp at hi
 have hgn: (ints ns)[i]?=some [pi n]:=by unfold ints; rw[List.getElem?_map,hi]; rfl
 intro m
 induction m with
 | zero =>
  intro j hj
  have:j=c.length:=by omega
  subst this
  rw[List.drop_length,List.any_nil,if_neg (by simp),L_edit_Cuts_0,Taf]
  simp
 | succ m ih =>
  intro j hj
  have h1:j<c.length:=by omega
  have hnl:i<nn:=by omega
  have ih':=ih (j+1) (by omega)
  have hg:=Tdd c j h1
  rw[List.drop_eq_getElem_cons h1,List.any_cons]
  generalize c[j]=x at *
  have hp:x.pv= [pi x.f,pi x.t,.sc (.string x.s)]:=rfl
  rw[hp]at hg
  have hcap: (acc.length+1)*8<=maxBytes/\acc.length+1<=9223372036854775807:=by unfold maxBytes; omega
  rw[show hitB n x= (decide (x.f<=n)&&decide (n<x.t))from rfl]
  by_cases c0:x.f<=n
  · by_cases c1:n<x.t
    · rw[decide_eq_true c0,decide_eq_true c1,L_edit_Cuts_0,Taf]
      simp(disch:=omega)[h1,hnl,hg,hgn,c0,c1,hcap,Taa,Tad,Tab,-getElem?_pos]
    · rw[decide_eq_false c1,Bool.and_false,Bool.false_or,← ih',L_edit_Cuts_0,Taf]
      simp(disch:=omega)[h1,hnl,hg,hgn,c0,c1,Taa,Tad,Tab,-getElem?_pos]
  · rw[decide_eq_false c0,Bool.false_and,Bool.false_or,← ih',L_edit_Cuts_0,Taf]
    simp(disch:=omega)[h1,hnl,hg,hgn,c0,Taa,Tad,Tab,-getElem?_pos]
theorem Trn (l:List At)(ns:List Int)(rev:Int)(u:List Int)(c:List Ch)(hn:ns.length=l.length+1)(hl:l.length<1099511627776)(hu:u.length<=9223372036854775807)(hc:∀ a∈l,a.cuts.length<=9223372036854775807)(hc8:c.length<=8):∀(m i:Nat) (acc:List Int),m+i=l.length->acc.length<=i ->
 Code (EX cp) L_edit_Cuts_1 ⟨[(1,.p (pi rev)),(2,.p (.sl 1 (ints u))),(3,.p (.sl 3 (chs c))),(9,.ms 9 0 (l.length+1)),(10,.ms 10 0 acc.length),(26,.p (.sl 5 (ats l))),(27,.p (pi l.length)),(28,.p (pi i))],[(9,.row 3 1 false (ints ns)),(10,.row 3 1 false (ints acc))]⟩ =
  some (.ex 0,⟨[(1,.p (pi rev)),(2,.p (.sl 1 (ints u))),(3,.p (.sl 3 (chs c))),(9,.ms 9 0 (l.length+1)),(10,.ms 10 0 (acc++cutsI rev u c (l.drop i) (ns.drop i) i).length),(26,.p (.sl 5 (ats l))),(27,.p (pi l.length)),(28,.p (pi l.length)),(29,.p (pb false))],[(9,.row 3 1 false (ints ns)),(10,.row 3 1 false (ints (acc++cutsI rev u c (l.drop i) (ns.drop i) i)))]⟩):=by
 intro m
 induction m with
 | zero =>
  intro i acc hi ha
  have:i=l.length:=by omega
  subst this
  rw[List.drop_length,cutsI,List.append_nil,L_edit_Cuts_1,Taf]
  · simp
  · intro _ _ _ _ h _; simp at h
 | succ m ih =>
  intro i acc hi ha
  have h1:i<l.length:=by omega
  have h2:i<ns.length:=by omega
  have hg:=Tje l i h1
  have c1:=visible (cp:=cp) l[i] rev u hu (hc _ (List.getElem_mem h1))
  have hi2:ns[i]?=some ns[i]:=List.getElem?_eq_getElem h2
  have l0:=Trm (cp:=cp) rev u c ns (ats l) (l.length+1) l.length i ns[i] hi2 (by omega) hl acc (by omega) hc8 c.length 0 (by omega)
  rw[List.drop_zero,show((0:Nat):Int)=0 from rfl]at l0
  have i1:=ih (i+1) acc (by omega) (by omega)
  have i2:=ih (i+1) (acc++ [(i:Int)]) (by omega) (by simp; omega)
  have hal: (acc++ [(i:Int)]).length=acc.length+1:=by simp
  rw[hal]at i2
  rw[List.drop_eq_getElem_cons h1,List.drop_eq_getElem_cons h2,cutsI]
  generalize ns[i]=n at *
  generalize l[i].vis rev u=b at *
  have hp:l[i].pv= [.sc (.string l[i].txt),pi l[i].rv,pi l[i].gr,pi l[i].rk,.sl 2 (cutsL l[i].cuts)]:=rfl
  rw[hp]at hg c1
  have e1: ((i+1:Nat):Int)= (i:Int)+1:=rfl
  cases b
  · rw[if_neg (by simp),← e1,← i1,L_edit_Cuts_1,Taf]
    simp(disch:=omega)[h1,hg,c1,Taa,Tad,Tab,-getElem?_pos]
  · by_cases hb:c.any (hitB n)=true
    · rw[if_pos hb]at l0
      have e2:acc++ (i:Int)::cutsI rev u c (l.drop (i+1)) (ns.drop (i+1)) ((i:Int)+1)=acc++ [(i:Int)]++cutsI rev u c (l.drop (i+1)) (ns.drop (i+1)) ((i:Int)+1):=by simp
      rw[if_pos ⟨rfl,hb⟩,e2,← e1,← i2,L_edit_Cuts_1,Taf]
      simp(disch:=omega)[h1,hg,c1,l0,Taa,Tad,Tab,-getElem?_pos]
    · rw[if_neg hb]at l0
      rw[if_neg (fun h=>hb h.2),← e1,← i1,L_edit_Cuts_1,Taf]
      simp(disch:=omega)[h1,hg,c1,l0,Taa,Tad,Tab,-getElem?_pos]
def cutsF (l:List At)(rev:Int)(u:List Int)(c:List Ch):List Int:=if chk (txtS rev u l) c=0 then cutsI rev u c l (places rev u l) 0 else[]
theorem editCuts (l:List At)(rev:Int)(u:List Int)(c:List Ch)(hf:Fit2 l)(hu:u.length<=9223372036854775807)(hcl:c.length<=9223372036854775807)(hcs:∀ x∈c,x.s.size<1099511627776) :
 Run (EX cp) 100 [.sl 5 (ats l),pi rev,.sl 1 (ints u),.sl 3 (chs c)]=some (.own 3 1 (ints (cutsF l rev u c))):=by
 have hl:=hf.fit.len
 have d1:=atomText (cp:=cp) l rev u hf.fit hu
 have d2:=editCheck (cp:=cp) (txtS rev u l) c (hf.txt rev u) hcl hcs
 have d3:=atomPlaces (cp:=cp) l rev u hf.fit hu
 have hc2:∀ a∈l,a.cuts.length<=9223372036854775807:=fun a ha=>by have:=hf.fit.cuts a ha; omega
 have hpl:=Tjf rev u l
 rw[Tah _ A_edit_Cuts _ rfl rfl rfl]
 unfold cutsF
 by_cases c0:chk (txtS rev u l) c=0
 · have h8:= (Tgv c0).len
   have h:=Trn (cp:=cp) l (places rev u l) rev u c hpl hl hu hc2 h8 l.length 0 [] (by omega) (by simp)
   rw[List.drop_zero,List.drop_zero,List.nil_append,show((0:Nat):Int)=0 from rfl,show ints []= []from rfl,show([]:List Int).length=0 from rfl]at h
   rw[if_pos c0]
   rw[c0]at d2
   generalize cutsI rev u c l (places rev u l) 0=o at *
   have ho: (ints o).take o.length=ints o:=List.take_of_length_le (by simp[ints])
   simp(disch:=omega)[A_edit_Cuts,d1,d2,d3,hpl,h,ho,Taa,Tad]
 · rw[if_neg c0]
   simp(disch:=omega)[A_edit_Cuts,d1,d2,c0,Taa,Tad]
theorem Tpr (s:ByteArray):∀(c:List Ch) (k:Int),Chain s c k->∀ x∈c,k<=x.f
 | [],_,_,_,h=>by simp at h
 | a::c,k,hch,x,hx=>by
  obtain⟨h0,h1,h2,h3,h4⟩:=hch
  rcases List.mem_cons.1 hx with rfl | hx
  · exact h1
  · have:=Tpr s c a.t h4 x hx
    omega
def bools (l:List Bool):List (List PV):=l.map fun b=> [pb b]
@[simp] theorem Tut (l:List Bool): (bools l).length=l.length:=by simp[bools]
theorem Tps (l:List Bool)(i:Nat)(h:i<l.length): (bools l)[i]?=some [pb l[i]]:=by simp[bools,List.getElem?_eq_getElem h]
theorem Tuu (l:List Bool)(i:Nat)(b:Bool): (bools l).set i [pb b]=bools (l.set i b):=by simp[bools,List.map_set]
def setB (is:List Int)(l:List Bool):List Bool:=is.foldl (fun l i=>l.set i.toNat true) l
theorem Tyh (is:List Int):∀ l:List Bool,(setB is l).length=l.length:=by
 induction is with
 | nil=>intro l; rfl
 | cons i is ih=>intro l; show(setB is (l.set i.toNat true)).length=_; rw[ih]; simp
theorem T2e (A C:List (List PV))(x4 x5 x6:Int)(sp:List Int)(cu:List Int)(hcu:cu.length<=1099511627776)(nl:Nat)(R16:List (List PV)):∀(m i:Nat) (bo:List Bool),m+i=cu.length-> (∀ x∈cu,0<=x/\x<bo.length)->bo.length<1099511627776 ->
 Code (EX cp) L_edit_Upon_0 ⟨[(0,.p (.sl 5 A)),(3,.p (.sl 3 C)),(4,.p (pi x4)),(5,.p (pi x5)),(6,.p (pi x6)),(15,.ms 15 0 sp.length),(16,.ms 16 0 0),(17,.ms 17 0 bo.length),(50,.ms 50 0 cu.length),(51,.p (pi cu.length)),(52,.p (pi i))],[(15,.row 3 1 false (ints sp)),(16,.row 62 5 false []),(17,.row 4 1 false (bools bo)),(50,.row 3 1 false (ints cu))]⟩ =
  some (.ex 0,⟨[(0,.p (.sl 5 A)),(3,.p (.sl 3 C)),(4,.p (pi x4)),(5,.p (pi x5)),(6,.p (pi x6)),(15,.ms 15 0 sp.length),(16,.ms 16 0 0),(17,.ms 17 0 bo.length),(50,.ms 50 0 cu.length),(51,.p (pi cu.length)),(52,.p (pi cu.length)),(53,.p (pb false))],[(15,.row 3 1 false (ints sp)),(16,.row 62 5 false []),(17,.row 4 1 false (bools (setB (cu.drop i) bo))),(50,.row 3 1 false (ints cu))]⟩):=by
 intro m
 induction m with
 | zero =>
  intro i bo hi hb hbl
  have:i=cu.length:=by omega
  subst this
  rw[List.drop_length,setB,List.foldl_nil,L_edit_Upon_0,Taf]
  simp
 | succ m ih =>
  intro i bo hi hb hbl
  have h1:i<cu.length:=by omega
  have hg:=Tf3 cu i h1
  obtain⟨b0,b1⟩:=hb cu[i] (List.getElem_mem h1)
  have ih':=ih (i+1) (bo.set cu[i].toNat true) (by omega) (by simpa using hb) (by simpa using hbl)
  rw[List.drop_eq_getElem_cons h1]
  have e:setB (cu[i]::cu.drop (i+1)) bo=setB (cu.drop (i+1)) (bo.set cu[i].toNat true):=rfl
  rw[List.length_set]at ih'
  have hset:=Tuu bo cu[i].toNat true
  obtain⟨y,hy⟩:=show ∃ y,(bools bo)[cu[i].toNat]?=some [pb y]from⟨_,Tps bo cu[i].toNat (by omega)⟩
  have hbl2:=Tut bo
  rw[e,← ih',L_edit_Upon_0,Taf]
  generalize cu[i]=x at *
  simp(disch:=omega)[h1,hg,b0,b1,hy,hset,hbl2,Taa,Tad,Tab,Taj,-getElem?_pos]
def cutZ (now gr:Int):List Bool->List At->List At
 | b::bo,a::l=> (if b=true then cutAt a now gr else a)::cutZ now gr bo l
 | _,l=>l
theorem Tef (now gr:Int)(l:List At):cutZ now gr [] l=l:=by cases l<;> rfl
theorem Tgw (now gr:Int):∀(bo:List Bool) (l:List At),(cutZ now gr bo l).length=l.length
 | [],l=>by rw[Tef]
 | b::bo,[]=>rfl
 | b::bo,a::l=>by rw[cutZ,List.length_cons,Tgw now gr bo l]; rfl
theorem Tpt (now gr:Int):∀(bo:List Bool) (l:List At) (i:Nat),bo.length<=i-> (cutZ now gr bo l)[i]?=l[i]?
 | [],l,i,_=>by rw[Tef]
 | b::bo,[],i,_=>rfl
 | b::bo,a::l,i,h=>by
  rw[List.length_cons]at h
  obtain⟨j,rfl⟩:∃ j,i=j+1:= ⟨i-1,by omega⟩
  rw[cutZ,List.getElem?_cons_succ,List.getElem?_cons_succ]
  exact Tpt now gr bo l j (by omega)
theorem Tmb (now gr:Int):∀(bo:List Bool) (l:List At) (b:Bool) (h:bo.length<l.length),cutZ now gr (bo++ [b]) l= (cutZ now gr bo l).set bo.length (if b=true then cutAt l[bo.length] now gr else l[bo.length])
 | [],[],b,h=>by simp at h
 | [],a::l,b,h=>by
  show cutZ now gr [b] (a::l)=_
  rw[cutZ,Tef,Tef]; rfl
 | c::bo,[],b,h=>by simp at h
 | c::bo,a::l,b,h=>by
  rw[List.length_cons,List.length_cons]at h
  rw[List.cons_append,cutZ,cutZ,Tmb now gr bo l b (by omega)]
  simp only[List.length_cons,List.getElem_cons_succ,List.set_cons_succ]
theorem T2f (C:List (List PV))(now gr rk:Int)(sp:List Int)(bo:List Bool)(l:List At)(hbo:bo.length=l.length)(hl:l.length<1099511627776)(hc:∀ a∈l,a.cuts.length<68719476736):∀(m i:Nat),m+i=l.length ->
 Code (EX cp) L_edit_Upon_1 ⟨[(3,.p (.sl 3 C)),(4,.p (pi now)),(5,.p (pi gr)),(6,.p (pi rk)),(15,.ms 15 0 sp.length),(16,.ms 16 0 0),(17,.ms 17 0 l.length),(20,.ms 20 0 l.length),(68,.p (pi l.length)),(69,.p (pi i))],[(15,.row 3 1 false (ints sp)),(16,.row 62 5 false []),(17,.row 4 1 false (bools bo)),(20,.dp 62 5 (dats (cutZ now gr (bo.take i) l)))]⟩ =
  some (.ex 2,⟨[(3,.p (.sl 3 C)),(4,.p (pi now)),(5,.p (pi gr)),(6,.p (pi rk)),(15,.ms 15 0 sp.length),(16,.ms 16 0 0),(17,.ms 17 0 l.length),(20,.ms 20 0 l.length),(68,.p (pi l.length)),(69,.p (pi l.length)),(70,.p (pb false))],[(15,.row 3 1 false (ints sp)),(16,.row 62 5 false []),(17,.row 4 1 false (bools bo)),(20,.dp 62 5 (dats (cutZ now gr bo l)))]⟩):=by
 intro m
 induction m with
 | zero =>
  intro i hi
  have:i=l.length:=by omega
  subst this
  rw[← hbo,List.take_length,hbo,L_edit_Upon_1,Taf]
  simp
 | succ m ih =>
  intro i hi
  have h1:i<l.length:=by omega
  have h2:i<bo.length:=by omega
  have hgb:=Tps bo i h2
  have ih':=ih (i+1) (by omega)
  have htk: (bo.take i).length=i:=by rw[List.length_take]; omega
  have hs:=Tmb now gr (bo.take i) l bo[i] (by omega)
  rw[← List.take_succ_eq_append_getElem h2]at hs
  have hge:=Tpt now gr (bo.take i) l i (by omega)
  have hzl:=Tgw now gr (bo.take i) l
  have hz2:=Tgw now gr (bo.take (i+1)) l
  simp only[htk]at hs
  rw[hs]at ih'
  generalize hz:cutZ now gr (bo.take i) l=z at *
  have hzi:i<z.length:=by omega
  rw[List.getElem?_eq_getElem hzi,List.getElem?_eq_getElem h1]at hge
  have hge':=oIj hge
  have hcl:=hc l[i] (List.getElem_mem h1)
  cases hb:bo[i]
  · rw[hb]at ih' hgb
    rw[if_neg (by simp),← hge',List.set_getElem_self]at ih'
    rw[← ih',L_edit_Upon_1,Taf]
    simp(disch:=omega)[h1,hgb,Taa,Tad,Tab,Taj,-getElem?_pos]
  · rw[hb]at ih' hgb
    rw[if_pos rfl,← hge']at ih'
    rw[← hge']at hcl
    have hg:=Tpe z i hzi
    have hp:=Txw z i hzi now gr
    have hln:=Txx (dats z) i 4 (.ow 0 0 [])
    generalize z[i]=a at *
    simp only[At.dv]at hg
    have hcap: (a.cuts.length+1)*16<=maxBytes/\a.cuts.length+1<=9223372036854775807:=by unfold maxBytes; omega
    have hsn:=Tq1 a.cuts now gr
    have hset: (z.set i (cutAt a now gr)).length=l.length:=by simp[hzl]
    rw[← ih',L_edit_Upon_1,Taf]
    simp(disch:=omega)[h1,hgb,hg,hzl,hp,hln,hcap,hsn,hset,Taa,Tad,Tab,Taj,-getElem?_pos]
end Go.Proofs.YtjpibniecllafaaGreat.AM
end
